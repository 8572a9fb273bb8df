/- Operators on single numbers. Conditions: none. -/
import Derived.Test.YtonpbbhlmapbdaaGreatDoorK7
set_option linter.unusedVariables false
set_option linter.unusedSimpArgs false
namespace Go.Proofs.YtonpbbhlmapbdaaGreatDoor.V
open Go Go.Wk Go.RowKit

theorem make_one {r c1 c2 : Int} (hr : I64 r) (h1 : U64 c1) (h2 : U64 c2) (h : B.hasS c1 c2 r = true) : makeS r r c1 c2 = constS r := by
  unfold makeS
  rw [up_at h1 h2 hr h, dn_at h1 h2 hr h]
  simp [constS]
theorem norm_const {v : Int} (h : I64 v) : normS (constS v) = constS v := norm_fix (.one h)
theorem nz_const {v : Int} (h : I64 v) : Nz (constS v) := (NF.one h).nz rfl
theorem ival_neg1 {x : Int} (h : I64 x) : (A.ival_Neg x x).1 = IntKind.i64.wrap (0 - x) ∧ (A.ival_Neg x x).2.1 = IntKind.i64.wrap (0 - x) := by
  rw [A.neg_span h h (Int.le_refl _)]; unfold A.span_s; rw [if_pos rfl]; exact ⟨rfl, rfl⟩
theorem ival_add1 {x y : Int} (h : I64 x) (h' : I64 y) : (A.ival_Add x x y y).1 = IntKind.i64.wrap (x + y) ∧ (A.ival_Add x x y y).2.1 = IntKind.i64.wrap (x + y) := by
  rw [A.add_span h h h' h' (Int.le_refl _) (Int.le_refl _)]; unfold A.span_s; rw [if_pos rfl]; exact ⟨rfl, rfl⟩
theorem ival_sub1 {x y : Int} (h : I64 x) (h' : I64 y) : (A.ival_Sub x x y y).1 = IntKind.i64.wrap (x - y) ∧ (A.ival_Sub x x y y).2.1 = IntKind.i64.wrap (x - y) := by
  rw [A.sub_span h h h' h' (Int.le_refl _) (Int.le_refl _)]; unfold A.span_s; rw [if_pos rfl]; exact ⟨rfl, rfl⟩
theorem ival_mul1 {x y : Int} (h : I64 x) (h' : I64 y) : (A.ival_Mul x x y y).1 = IntKind.i64.wrap (x * y) ∧ (A.ival_Mul x x y y).2.1 = IntKind.i64.wrap (x * y) := by
  rw [A.ival_Mul_s h h h' h']; unfold A.mulS
  rw [if_neg (by omega)]
  by_cases f : A.fit (x * y) ∧ A.fit (x * y) ∧ A.fit (x * y) ∧ A.fit (x * y)
  · rw [if_pos f]
    have g := f.1
    unfold A.fit at g
    rw [wi_id (by omega) (by omega)]
    simp
  · rw [if_neg f, if_pos ⟨rfl, rfl⟩]; exact ⟨rfl, rfl⟩
theorem ival_div1 {x y : Int} (h : I64 x) (h' : I64 y) (h0 : y ≠ 0) : (A.ival_Div x x y y).1 = B.qw x y ∧ (A.ival_Div x x y y).2.1 = B.qw x y := by
  have key : ∀ q, A.Q x x y y q → q = B.qw x y := by
    rintro q ⟨x', y', a1, a2, a3, a4, a5, rfl⟩
    obtain rfl : x' = x := by omega
    obtain rfl : y' = y := by omega
    rw [qw_div h h0]
  rcases (A.ival_Div_s h h h' h' (by omega) (by omega)).1 with ⟨e, n⟩ | ⟨p, q, _⟩
  · exact (n _ ⟨x, y, Int.le_refl _, Int.le_refl _, Int.le_refl _, Int.le_refl _, h0, rfl⟩).elim
  · exact ⟨key _ p, key _ q⟩
theorem ival_rem1 {x y : Int} (h : I64 x) (h' : I64 y) (h0 : y ≠ 0) : (A.ival_Rem x x y y).1 = B.rw' x y ∧ (A.ival_Rem x x y y).2.1 = B.rw' x y := by
  rw [A.rem_eq h h h' h', rw_tmod]
  have e : (bif y != -1 then x.tmod y else 0) = x.tmod y := by
    by_cases h1 : y = -1
    · subst h1; rw [← rw_tmod]; rfl
    · rw [show (y != -1) = true by simpa using h1]; rfl
  have e0 : decide (y = 0) = false := by simpa using h0
  unfold A.ref_Rem A.ref_Rem.c A.ref_Rem.c0
  simp only [A.empty_s, A.rm_s, id, A.None_s, beq_self_eq_true, e, e0, cond_true, Bool.not_false, Bool.true_and, Bool.true_or]
  rw [decide_eq_false (show ¬ x < x by omega)]
  simp only [cond_false]
  by_cases k1 : (A.mt y y (-9223372036854775808) (-1)).2 < (A.mt y y (-9223372036854775808) (-1)).1
  · by_cases k2 : (A.mt y y 1 9223372036854775807).2 < (A.mt y y 1 9223372036854775807).1
    · rw [A.mt_ne] at k1 k2
      unfold I64 at h'
      omega
    · rw [decide_eq_true k1, decide_eq_false k2]; exact ⟨rfl, rfl⟩
  · rw [decide_eq_false k1]; exact ⟨rfl, rfl⟩
theorem applyN_one {op x y : Int} (hx : I64 x) (hy : I64 y) (hop : isOp op) (h0 : (op = 6 ∨ op = 7) → y ≠ 0) : applyN op (constS x) (constS y) = constS (resS op x y) := by
  have zx := nz_const hx
  have zy := nz_const hy
  have wx := zx.w
  have wy := zy.w
  have sp := (applyN_spec zx zy hop h0).2 x y hx hy zx.l (fun _ => zy.l) h0
  have hI := resS_I (op := op) (y := y) hx
  -- both ends are the result
  have key : ∀ (i : Int × Int × Bool) (c : Int × Int), Fit4 i c → i.1 = resS op x y → i.2.1 = resS op x y → In (mk4 i c) (resS op x y) → mk4 i c = constS (resS op x y) := by
    intro i c f e1 e2 hin
    unfold mk4 at hin ⊢
    rw [make_in f.l f.h f.m f.r hI] at hin
    rw [e1, e2]
    exact make_one hI f.m f.r hin.2
  rcases hop with rfl | rfl | rfl | rfl | rfl | rfl
  · unfold applyN at sp ⊢
    rw [if_pos rfl] at sp ⊢
    have e := ival_neg1 hx
    refine key _ _ (fit_neg zx) ?_ ?_ sp <;> unfold resS
    · rw [if_pos rfl]; exact e.1
    · rw [if_pos rfl]; exact e.2
  · unfold applyN at sp ⊢
    simp only [show ¬ (3 : Int) = 1 by decide, if_true, if_false] at sp ⊢
    have e := ival_add1 hx hy
    refine key _ _ (fit_add zx zy) ?_ ?_ sp <;> unfold resS <;> simp only [show ¬ (3 : Int) = 1 by decide, if_true, if_false]
    · exact e.1
    · exact e.2
  · unfold applyN at sp ⊢
    simp only [show ¬ (4 : Int) = 1 by decide, show ¬ (4 : Int) = 3 by decide, if_true, if_false] at sp ⊢
    have e := ival_sub1 hx hy
    refine key _ _ (fit_sub zx zy) ?_ ?_ sp <;> unfold resS <;> simp only [show ¬ (4 : Int) = 1 by decide, show ¬ (4 : Int) = 3 by decide, if_true, if_false]
    · exact e.1
    · exact e.2
  · unfold applyN at sp ⊢
    simp only [show ¬ (5 : Int) = 1 by decide, show ¬ (5 : Int) = 3 by decide, show ¬ (5 : Int) = 4 by decide, if_true, if_false] at sp ⊢
    have e := ival_mul1 hx hy
    refine key _ _ (fit_mul zx zy) ?_ ?_ sp <;> unfold resS <;> simp only [show ¬ (5 : Int) = 1 by decide, show ¬ (5 : Int) = 3 by decide, show ¬ (5 : Int) = 4 by decide, if_true, if_false]
    · exact e.1
    · exact e.2
  · have hz := h0 (.inl rfl)
    unfold applyN at sp ⊢
    simp only [show ¬ (6 : Int) = 1 by decide, show ¬ (6 : Int) = 3 by decide, show ¬ (6 : Int) = 4 by decide, show ¬ (6 : Int) = 5 by decide, if_true, if_false] at sp ⊢
    have e := ival_div1 hx hy hz
    refine key _ _ (fit_div zx zy hz) ?_ ?_ sp <;> unfold resS <;> simp only [show ¬ (6 : Int) = 1 by decide, show ¬ (6 : Int) = 3 by decide, show ¬ (6 : Int) = 4 by decide, show ¬ (6 : Int) = 5 by decide, if_true, if_false]
    · exact e.1
    · exact e.2
  · have hz := h0 (.inr rfl)
    unfold applyN at sp ⊢
    simp only [show ¬ (7 : Int) = 1 by decide, show ¬ (7 : Int) = 3 by decide, show ¬ (7 : Int) = 4 by decide, show ¬ (7 : Int) = 5 by decide, show ¬ (7 : Int) = 6 by decide, if_false] at sp ⊢
    have e := ival_rem1 hx hy hz
    refine key _ _ (fit_rem zx zy hz) ?_ ?_ sp <;> unfold resS <;> simp only [show ¬ (7 : Int) = 1 by decide, show ¬ (7 : Int) = 3 by decide, show ¬ (7 : Int) = 4 by decide, show ¬ (7 : Int) = 5 by decide, show ¬ (7 : Int) = 6 by decide, if_false]
    · exact e.1
    · exact e.2
theorem nz_zero : nzN (constS 0) = botS := by decide +kernel
theorem nzN_const {v : Int} (hv : I64 v) (h : v ≠ 0) : nzN (constS v) = constS v := nzN_same (.one hv) (.inr ⟨h, h⟩)
/-- an operator on two single numbers -/
theorem apply_one {op x y : Int} (hx : I64 x) (hy : I64 y) (hop : isOp op) : applyS op (constS x) (constS y) = if (op = 6 ∨ op = 7) ∧ y = 0 then botS else constS (resS op x y) := by
  unfold applyS
  rw [norm_const hx, norm_const hy]
  by_cases h : (op = 6 ∨ op = 7) ∧ y = 0
  · obtain ⟨h1, rfl⟩ := h
    have e : rhs op (constS 0) = botS := by unfold rhs; rw [if_pos h1, nz_zero]
    rw [e, if_pos (.inr ⟨rfl, by omega⟩), if_pos ⟨h1, rfl⟩]
  · have e : rhs op (constS y) = constS y := by
      unfold rhs
      by_cases h1 : op = 6 ∨ op = 7
      · rw [if_pos h1, nzN_const hy (fun e => h ⟨h1, e⟩)]
      · rw [if_neg h1]
    rw [e, if_neg (by simp [constS]), if_neg h]
    exact applyN_one hx hy hop (fun q e => h ⟨q, e⟩)
/-- Bot of Bot -/
theorem apply_bot {op : Int} {a b : Nm} (h : (normS a).1 = true ∨ (normS b).1 = true ∧ op ≠ 1) : applyS op a b = botS := by
  unfold applyS
  rw [if_pos]
  rcases h with h | ⟨h, h'⟩
  · exact .inl h
  · refine .inr ⟨?_, h'⟩
    unfold rhs nzN
    rw [h]
    split <;> simp [h]
end Go.Proofs.YtonpbbhlmapbdaaGreatDoor.V
