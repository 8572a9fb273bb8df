/- What the functions of chapter 13 compute, the program's and the document's: the same. Conditions: none. -/
import Derived.Test.YtonpbbhlmapbdaaGreatDoorK1
import Derived.Test.YtonpbbhlmapbdaaGreatDoorE7
import Derived.Test.YtonpbbhlmapbdaaGreatDoorAN3
set_option linter.unusedVariables false
set_option linter.unusedSimpArgs false
namespace Go.Proofs.YtonpbbhlmapbdaaGreatDoor.V
open Go Go.Wk Go.RowKit

theorem far1_nr {m : Int} (r v : Int) (h : m ≠ 0) : B.far1 m (B.nr m r) v = B.far1 m r v := by
  unfold B.far1 B.nr
  rw [if_neg h, Int.sub_emod, Int.emod_emod_of_dvd _ (Int.dvd_refl m), ← Int.sub_emod]
theorem far1_nr' {m : Int} (r v : Int) (h : m ≠ 0) : B.far1 m v (B.nr m r) = B.far1 m v r := by
  unfold B.far1 B.nr
  rw [if_neg h, Int.sub_emod, Int.emod_emod_of_dvd _ (Int.dvd_refl m), ← Int.sub_emod]
theorem upS_nr (m r v : Int) : B.upS m (B.nr m r) v = B.upS m r v := by
  unfold B.upS
  by_cases h : m = 0
  · subst h; unfold B.nr; simp only [if_true]
  · simp only [if_neg h, far1_nr r v h]
theorem dnS_nr (m r v : Int) : B.dnS m (B.nr m r) v = B.dnS m r v := by
  unfold B.dnS
  by_cases h : m = 0
  · subst h; unfold B.nr; simp only [if_true]
  · simp only [if_neg h, far1_nr' r v h]
theorem num_Bot_s : num_Bot = botS := rfl
theorem num_Make_s {a b c d : Int} (ha : I64 a) (hb : I64 b) (hc : U64 c) (hd : U64 d) : num_Make a b c d = makeS a b c d := by
  unfold num_Make num_Make.c num_Make.c0 makeS
  simp only [B.norm_s hc hd, B.up_s hc (B.nr_U hc hd) ha, B.dn_s hc (B.nr_U hc hd) hb, upS_nr, dnS_nr, B.const_s, num_Bot_s, id]
  generalize B.upS c d a = U
  generalize B.dnS c d b = V
  obtain ⟨u, p⟩ := U
  obtain ⟨v, q⟩ := V
  by_cases h1 : b < a <;> cases p <;> cases q <;> by_cases h2 : v < u <;> by_cases h3 : u = v <;> simp [h1, h2, h3, botS, Bool.cond_eq_ite]
def rangeS (a b : Int) : Nm := makeS a b 1 0
theorem num_Range_s {a b : Int} (ha : I64 a) (hb : I64 b) : num_Range a b = rangeS a b := by
  unfold num_Range num_Range.c num_Range.c0
  simp only [num_Make_s ha hb U1 U0, id]
  rfl
theorem num_Const_s {a : Int} (ha : I64 a) : num_Const a = constS a := by
  unfold num_Const num_Const.c num_Const.c0
  simp only [num_Range_s ha ha, id]
  exact make_const ha
theorem Imin : I64 (-9223372036854775808) := by unfold I64; decide
theorem Imax : I64 9223372036854775807 := by unfold I64; decide
theorem num_Norm_s {a0 : Bool} {a1 a2 a3 a4 : Int} (h : Raw (a0, a1, a2, a3, a4)) : num_Norm a0 a1 a2 a3 a4 = normS (a0, a1, a2, a3, a4) := by
  unfold num_Norm num_Norm.c num_Norm.c0 normS
  simp only [num_Make_s h.l h.h h.m h.r, num_Bot_s, id]
  cases a0 <;> rfl
theorem num_Has_s {a0 : Bool} {a1 a2 a3 a4 v : Int} (h : Raw (a0, a1, a2, a3, a4)) (hv : I64 v) : num_Has a0 a1 a2 a3 a4 v = decide (In (a0, a1, a2, a3, a4) v) := by
  unfold num_Has num_Has.c num_Has.c0
  simp only [A.ih_s, B.has_s h.m h.r hv, id]
  rw [Bool.eq_iff_iff, decide_eq_true_eq]
  unfold In
  cases a0 <;> by_cases h1 : a1 ≤ v ∧ v ≤ a2 <;> simp [h1]
theorem aleq_s {a b : Int} (c d : Int) (h : a ≤ b) : A.ival_Leq a b c d = (decide (c ≤ a) && decide (b ≤ d)) := by
  unfold A.ival_Leq A.ival_Leq.c A.ival_Leq.c0
  simp only [A.none_s, id]
  rw [decide_eq_false (show ¬ b < a by omega)]
  by_cases h1 : c ≤ a <;> simp [h1]
theorem nz_or (x : Nm) (h : NF x) : x.1 = true ∨ (x.1 = false ∧ x.2.1 ≤ x.2.2.1) := by
  rcases nf_ne h with h | h
  · exact .inl h
  · exact .inr ⟨h.b, h.le⟩
section
variable {a0 b0 : Bool} {a1 a2 a3 a4 b1 b2 b3 b4 : Int}
theorem num_Leq_k {γ : Type} (n : γ) (k : Bool → γ) (h : Raw (a0, a1, a2, a3, a4)) (h' : Raw (b0, b1, b2, b3, b4)) :
    num_Leq.c n k a0 a1 a2 a3 a4 b0 b1 b2 b3 b4 = k (leqS (a0, a1, a2, a3, a4) (b0, b1, b2, b3, b4)) := by
  unfold num_Leq.c num_Leq.c0 leqS leqN
  have n1 := norm_nf h
  have n2 := norm_nf h'
  simp only [num_Norm_s h, num_Norm_s h']
  generalize normS (a0, a1, a2, a3, a4) = x at *
  generalize normS (b0, b1, b2, b3, b4) = y at *
  simp only [B.leq_ok n1.raw.m n1.raw.r n2.raw.m n2.raw.r, B.leq_s n1.raw.m n1.raw.r n2.raw.m n2.raw.r, Bool.true_or, Bool.true_and, cond_true]
  congr 1
  rcases nz_or x n1 with e | ⟨e, le⟩
  · simp [e]
  · rw [aleq_s _ _ le]
    cases y.1 <;> cases decide (y.2.1 ≤ x.2.1) <;> cases decide (x.2.2.1 ≤ y.2.2.1) <;> simp [e]
theorem num_Leq_ok (h : Raw (a0, a1, a2, a3, a4)) (h' : Raw (b0, b1, b2, b3, b4)) : num_Leq.ok a0 a1 a2 a3 a4 b0 b1 b2 b3 b4 = true := num_Leq_k _ _ h h'
theorem num_Leq_s (h : Raw (a0, a1, a2, a3, a4)) (h' : Raw (b0, b1, b2, b3, b4)) : num_Leq a0 a1 a2 a3 a4 b0 b1 b2 b3 b4 = leqS (a0, a1, a2, a3, a4) (b0, b1, b2, b3, b4) := num_Leq_k _ _ h h'
theorem jn_ne {a b c d : Int} (h : a ≤ b) (h' : c ≤ d) : A.jn a b c d = (if c < a then c else a, if d > b then d else b) := by
  unfold A.jn; rw [if_neg (by omega), if_neg (by omega)]
theorem num_Join_k {γ : Type} (n : γ) (k : Nm → γ) (h : Raw (a0, a1, a2, a3, a4)) (h' : Raw (b0, b1, b2, b3, b4)) :
    num_Join.c n k a0 a1 a2 a3 a4 b0 b1 b2 b3 b4 = k (joinS (a0, a1, a2, a3, a4) (b0, b1, b2, b3, b4)) := by
  unfold num_Join.c num_Join.c0 joinS joinN
  have n1 := norm_nf h
  have n2 := norm_nf h'
  simp only [num_Norm_s h, num_Norm_s h']
  generalize normS (a0, a1, a2, a3, a4) = x at *
  generalize normS (b0, b1, b2, b3, b4) = y at *
  have j := B.join_spec n1.raw.m n1.raw.r n2.raw.m n2.raw.r
  simp only [B.join_ok n1.raw.m n1.raw.r n2.raw.m n2.raw.r, B.join_s n1.raw.m n1.raw.r n2.raw.m n2.raw.r, cond_true]
  rcases nz_or x n1 with e | ⟨e, le⟩
  · simp [e]
  · rcases nz_or y n2 with e' | ⟨e', le'⟩
    · simp [e, e']; rw [← e]
    · simp only [e, e', cond_false, A.ij_s, jn_ne le le']
      rw [num_Make_s (ite_I n2.raw.l n1.raw.l) (ite_I n2.raw.h n1.raw.h) j.1 j.2.1]
      simp
theorem num_Join_ok (h : Raw (a0, a1, a2, a3, a4)) (h' : Raw (b0, b1, b2, b3, b4)) : num_Join.ok a0 a1 a2 a3 a4 b0 b1 b2 b3 b4 = true := num_Join_k _ _ h h'
theorem num_Join_s (h : Raw (a0, a1, a2, a3, a4)) (h' : Raw (b0, b1, b2, b3, b4)) : num_Join a0 a1 a2 a3 a4 b0 b1 b2 b3 b4 = joinS (a0, a1, a2, a3, a4) (b0, b1, b2, b3, b4) := num_Join_k _ _ h h'
theorem num_Meet_k {γ : Type} (n : γ) (k : Nm → γ) (h : Raw (a0, a1, a2, a3, a4)) (h' : Raw (b0, b1, b2, b3, b4)) :
    num_Meet.c n k a0 a1 a2 a3 a4 b0 b1 b2 b3 b4 = k (meetS (a0, a1, a2, a3, a4) (b0, b1, b2, b3, b4)) := by
  unfold num_Meet.c num_Meet.c0 meetS meetN
  have n1 := norm_nf h
  have n2 := norm_nf h'
  simp only [num_Norm_s h, num_Norm_s h']
  generalize normS (a0, a1, a2, a3, a4) = x at *
  generalize normS (b0, b1, b2, b3, b4) = y at *
  have j := B.meet_spec n1.raw.m n1.raw.r n2.raw.m n2.raw.r
  have mi := A.mt_I n1.raw.l n1.raw.h n2.raw.l n2.raw.h
  simp only [B.meet_ok n1.raw.m n1.raw.r n2.raw.m n2.raw.r, B.meet_s n1.raw.m n1.raw.r n2.raw.m n2.raw.r, A.im_s, num_Make_s mi.1 mi.2 j.1 j.2.1, num_Bot_s, cond_true]
  cases x.1 <;> cases y.1 <;> cases (B.meetS x.2.2.2.1 x.2.2.2.2 y.2.2.2.1 y.2.2.2.2).2.2 <;> simp
theorem num_Meet_ok (h : Raw (a0, a1, a2, a3, a4)) (h' : Raw (b0, b1, b2, b3, b4)) : num_Meet.ok a0 a1 a2 a3 a4 b0 b1 b2 b3 b4 = true := num_Meet_k _ _ h h'
theorem num_Meet_s (h : Raw (a0, a1, a2, a3, a4)) (h' : Raw (b0, b1, b2, b3, b4)) : num_Meet a0 a1 a2 a3 a4 b0 b1 b2 b3 b4 = meetS (a0, a1, a2, a3, a4) (b0, b1, b2, b3, b4) := num_Meet_k _ _ h h'
theorem nzN_same {x : Nm} (n : NF x) (h : x.1 = true ∨ (x.2.1 ≠ 0 ∧ x.2.2.1 ≠ 0)) : nzN x = x := by
  unfold nzN
  by_cases hb : x.1 = true
  · rw [if_pos hb]
  · rw [if_neg hb]
    obtain ⟨h1, h2⟩ := h.resolve_left hb
    rw [if_neg h1, if_neg h2]
    have := norm_fix n
    unfold normS at this
    rwa [if_neg hb] at this
theorem num_NonZero_s (h : Raw (a0, a1, a2, a3, a4)) : num_NonZero a0 a1 a2 a3 a4 = nzS (a0, a1, a2, a3, a4) := by
  unfold num_NonZero num_NonZero.c num_NonZero.c0 nzS
  have n1 := norm_nf h
  simp only [num_Norm_s h, num_Bot_s, id]
  generalize normS (a0, a1, a2, a3, a4) = x at *
  have r := n1.raw
  simp only [num_Make_s I1 r.h r.m r.r, num_Make_s r.l In1 r.m r.r]
  by_cases hb : x.1 = true
  · rw [nzN_same n1 (.inl hb)]; simp [hb]; rw [← hb]
  · by_cases h1 : x.2.1 = 0 <;> by_cases h2 : x.2.2.1 = 0
    · unfold nzN makeS; simp [hb, h1, h2, botS, Bool.cond_eq_ite]
    · unfold nzN; simp [hb, h1, h2, Bool.cond_eq_ite]
    · unfold nzN; simp [hb, h1, h2, Bool.cond_eq_ite]
    · rw [nzN_same n1 (.inr ⟨h1, h2⟩)]; simp [hb, h1, h2, Bool.cond_eq_ite]; rw [← (show x.1 = false by simpa using hb)]
end
end Go.Proofs.YtonpbbhlmapbdaaGreatDoor.V
