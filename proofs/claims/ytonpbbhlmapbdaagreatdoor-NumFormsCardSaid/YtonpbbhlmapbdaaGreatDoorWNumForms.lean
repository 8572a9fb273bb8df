/- NumForms: the law function, evaluated: it answers true. Conditions: none. -/
import Derived.Test.YtonpbbhlmapbdaaGreatDoorK8
set_option linter.unusedVariables false
set_option linter.unusedSimpArgs false
namespace Go.Proofs.YtonpbbhlmapbdaaGreatDoor.V
open Go Go.Wk Go.RowKit

theorem dec_congr {p q : Prop} [Decidable p] [Decidable q] (h : p ↔ q) : decide p = decide q := by
  by_cases hp : p
  · rw [decide_eq_true hp, decide_eq_true (h.1 hp)]
  · rw [decide_eq_false hp, decide_eq_false (fun hq => hp (h.2 hq))]
theorem leqS_eq {x y : Nm} (h : ∀ v, I64 v → In x v → In y v) (hx : Raw x) (hy : Raw y) : leqS x y = true := (leq_iff hx hy).2 h
theorem cf {α : Type} {c : Bool} {x y z : α} (h : c = false) (h' : y = z) : (bif c then x else y) = z := by subst h; exact h'
theorem in_top {v : Int} (h : I64 v) : In topS v := by
  unfold topS rangeS
  rw [make_in Imin Imax U1 U0 h]
  unfold I64 at h
  exact ⟨by omega, has_one v⟩
theorem numForms.v {γ : Type} (n : γ) (k : Bool → γ) {a0 b0 c0 : Bool} {a1 a2 a3 a4 b1 b2 b3 b4 c1 c2 c3 c4 v : Int} (ha : Raw (a0, a1, a2, a3, a4)) (hb : Raw (b0, b1, b2, b3, b4)) (hc : Raw (c0, c1, c2, c3, c4)) (hv : I64 v) :
    law_NumForms.c n k a0 a1 a2 a3 a4 b0 b1 b2 b3 b4 c0 c1 c2 c3 c4 v = k true := by
  unfold law_NumForms.c law_NumForms.c0
  have nX := norm_nf ha
  have nY := norm_nf hb
  have nJ := join_nf ha hb
  have nM := meet_nf ha hb
  have nZ := nz_nf ha
  have iX := fun w (hw : I64 w) => norm_in ha hw
  have iM := fun w (hw : I64 w) => meet_in ha hb hw
  have iZ := fun w (hw : I64 w) => nz_in ha hw
  have sJ := join_spec ha hb
  have lJ := leq_join ha hb
  have lM := leq_meet ha hb
  have zsame := fun h => nzN_same nX h
  have ez : nzS (a0, a1, a2, a3, a4) = nzN (normS (a0, a1, a2, a3, a4)) := rfl
  have ext := fun (h : normS (a0, a1, a2, a3, a4) = normS (b0, b1, b2, b3, b4)) => And.intro ((norm_sub ha).2.trans (h ▸ (norm_sub hb).1)) ((norm_sub hb).2.trans (h ▸ (norm_sub ha).1))
  simp only [works_ok, works_s, num_Norm_s ha, num_Norm_s hb, num_Join_ok ha hb, num_Join_s ha hb, num_Meet_ok ha hb, num_Meet_s ha hb, num_NonZero_s ha, num_Top_s, num_Has_s ha hv, inside_ok ha hv, inside_s ha hv, inside_ok hb hv, inside_s hb hv, num_Leq_ok ha hb, num_Leq_s ha hb, num_Leq_ok hb ha, num_Leq_s hb ha, num_Leq_ok ha hc, num_Leq_s ha hc, num_Leq_ok hb hc, num_Leq_s hb hc, cond_true, Bool.not_true, cond_false]
  rw [ez] at iZ nZ
  simp only [ez]
  generalize normS (a0, a1, a2, a3, a4) = X at *
  generalize normS (b0, b1, b2, b3, b4) = Y at *
  generalize joinS (a0, a1, a2, a3, a4) (b0, b1, b2, b3, b4) = J at *
  generalize meetS (a0, a1, a2, a3, a4) (b0, b1, b2, b3, b4) = M at *
  have rX : Raw (X.1, X.2.1, X.2.2.1, X.2.2.2.1, X.2.2.2.2) := nX.raw
  have rJ : Raw (J.1, J.2.1, J.2.2.1, J.2.2.2.1, J.2.2.2.2) := nJ.raw
  have rM : Raw (M.1, M.2.1, M.2.2.1, M.2.2.2.1, M.2.2.2.2) := nM.raw
  have nT : NF topS := make_nf Imin Imax U1 U0
  have rT : Raw (topS.1, topS.2.1, topS.2.2.1, topS.2.2.2.1, topS.2.2.2.2) := nT.raw
  have eX : num_Norm X.1 X.2.1 X.2.2.1 X.2.2.2.1 X.2.2.2.2 = X := (num_Norm_s rX).trans (norm_fix nX)
  have hw := some_in (a0 := X.1) (a1 := X.2.1) (a2 := X.2.2.1) (a3 := X.2.2.2.1) (a4 := X.2.2.2.2) nX hv
  have ow := some_ok (a0 := X.1) (a1 := X.2.1) (a2 := X.2.2.1) (a3 := X.2.2.2.1) (a4 := X.2.2.2.2) nX hv
  simp only [ow]
  generalize law_some X.1 X.2.1 X.2.2.1 X.2.2.2.1 X.2.2.2.2 v = w at *
  obtain ⟨wI, wX⟩ := hw
  have xl := rX.l
  have xh := rX.h
  simp only at xl xh
  generalize hZ : nzN X = Z at *
  have rZ : Raw (Z.1, Z.2.1, Z.2.2.1, Z.2.2.2.1, Z.2.2.2.2) := nZ.raw
  simp only [eX, normal_ok nX, normal_s nX, normal_ok nY, normal_s nY, normal_ok nJ, normal_s nJ, normal_ok nM, normal_s nM, normal_ok nZ, normal_s nZ, inside_ok rX hv, inside_s rX hv, inside_ok rM hv, inside_s rM hv, inside_ok rJ hv, inside_s rJ hv, inside_ok rZ hv, inside_s rZ hv, inside_ok rT hv, inside_s rT hv, inside_ok rZ I0, inside_s rZ I0,
    inside_ok ha wI, inside_s ha wI, inside_ok hb wI, inside_s hb wI, inside_ok rM wI, inside_s rM wI, inside_ok rJ wI, inside_s rJ wI,
    inside_ok ha xl, inside_s ha xl, inside_ok hb xl, inside_s hb xl, inside_ok rM xl, inside_s rM xl, inside_ok rJ xl, inside_s rJ xl,
    inside_ok ha xh, inside_s ha xh, inside_ok hb xh, inside_s hb xh, inside_ok rM xh, inside_s rM xh, inside_ok rJ xh, inside_s rJ xh,
    num_Leq_ok rM ha, num_Leq_s rM ha, num_Leq_ok rM hb, num_Leq_s rM hb, num_Leq_ok ha rJ, num_Leq_s ha rJ, num_Leq_ok rJ hc, num_Leq_s rJ hc,
    cond_true, cond_false, Bool.true_or, Bool.or_true, Bool.true_and, Bool.and_true, Bool.not_true, Bool.not_false]
  have fX : ∀ u, I64 u → decide (In (X.1, X.2.1, X.2.2.1, X.2.2.2.1, X.2.2.2.2) u) = decide (In (a0, a1, a2, a3, a4) u) := fun u hu => dec_congr (iX u hu)
  have fM : ∀ u, I64 u → decide (In (M.1, M.2.1, M.2.2.1, M.2.2.2.1, M.2.2.2.2) u) = (decide (In (a0, a1, a2, a3, a4) u) && decide (In (b0, b1, b2, b3, b4) u)) := fun u hu => by
    rw [← Bool.decide_and]; exact dec_congr (iM u hu)
  have fJ : ∀ u, I64 u → In (a0, a1, a2, a3, a4) u ∨ In (b0, b1, b2, b3, b4) u → decide (In (J.1, J.2.1, J.2.2.1, J.2.2.2.1, J.2.2.2.2) u) = true := fun u hu h => decide_eq_true (h.elim (sJ.1 u hu) (sJ.2.1 u hu))
  have fZ : v ≠ 0 → decide (In (Z.1, Z.2.1, Z.2.2.1, Z.2.2.2.1, Z.2.2.2.2) v) = decide (In (a0, a1, a2, a3, a4) v) := fun h => dec_congr ((iZ v hv).trans ⟨fun q => q.1, fun q => ⟨q, fun e => (h e).elim⟩⟩)
  have fT : decide (In (topS.1, topS.2.1, topS.2.2.1, topS.2.2.2.1, topS.2.2.2.2) v) = true := decide_eq_true (in_top hv)
  have hL : leqS (a0, a1, a2, a3, a4) (b0, b1, b2, b3, b4) = true → Sub (a0, a1, a2, a3, a4) (b0, b1, b2, b3, b4) := fun h => (leq_iff ha hb).1 h
  refine cf (by simp) (cf ?_ ?_)
  · rw [fX v hv, fM v hv, fT]
    by_cases p : In (a0, a1, a2, a3, a4) v
    · rw [fJ v hv (.inl p)]
      by_cases q : In (b0, b1, b2, b3, b4) v <;> by_cases z : v = 0
      · simp [p, q, z]
      · rw [fZ z]; simp [p, q]
      · simp [p, q, z]
      · rw [fZ z]; simp [p, q]
    · by_cases q : In (b0, b1, b2, b3, b4) v
      · rw [fJ v hv (.inr q)]
        by_cases z : v = 0
        · simp [p, q, z]
        · rw [fZ z]; simp [p, q]
      · by_cases z : v = 0
        · rw [decide_eq_false p, decide_eq_false q]; simp [z]
        · rw [fZ z]; simp [p, q]
  have g3 : ∀ u, I64 u → (X.1 = false → In X u) → (bif !X.1 then bif bif bif !decide (In (a0, a1, a2, a3, a4) u) then true else bif leqS (a0, a1, a2, a3, a4) (b0, b1, b2, b3, b4) then !decide (In (b0, b1, b2, b3, b4) u) else false then true else !(decide (In (M.1, M.2.1, M.2.2.1, M.2.2.2.1, M.2.2.2.2) u) == decide (In (b0, b1, b2, b3, b4) u)) then true else !decide (In (J.1, J.2.1, J.2.2.1, J.2.2.2.1, J.2.2.2.2) u) else false) = false := by
    intro u hu hi
    cases hx : X.1 with
    | true => rfl
    | false =>
      have p := (iX u hu).1 (hi hx)
      rw [fM u hu, fJ u hu (.inl p)]
      cases hl : leqS (a0, a1, a2, a3, a4) (b0, b1, b2, b3, b4) with
      | true => have q := hL hl u hu p; simp [p, q]
      | false => simp [p]
  refine cf (g3 _ xl fun e => (nX.nz e).l) (cf (g3 _ xh fun e => (nX.nz e).h) (cf (g3 w wI wX) (cf ?_ (cf ?_ (congrArg k ?_)))))
  · have lJ' : leqS (a0, a1, a2, a3, a4) (b0, b1, b2, b3, b4) = (J.1 == Y.1 && (J.2.1 == Y.2.1 && J.2.2.1 == Y.2.2.1 && (J.2.2.2.1 == Y.2.2.2.1 && J.2.2.2.2 == Y.2.2.2.2))) := lJ
    have lM' : leqS (a0, a1, a2, a3, a4) (b0, b1, b2, b3, b4) = (M.1 == X.1 && (M.2.1 == X.2.1 && M.2.2.1 == X.2.2.1 && (M.2.2.2.1 == X.2.2.2.1 && M.2.2.2.2 == X.2.2.2.2))) := lM
    rw [← lJ', ← lM']
    cases h1 : leqS (a0, a1, a2, a3, a4) (c0, c1, c2, c3, c4) with
    | false => simp
    | true =>
      cases h2 : leqS (b0, b1, b2, b3, b4) (c0, c1, c2, c3, c4) with
      | false => simp
      | true =>
        rw [(leq_iff rJ hc).2 (sJ.2.2 _ hc ((leq_iff ha hc).1 h1) ((leq_iff hb hc).1 h2))]
        simp
  · have hE : (Z.1 == X.1 && (Z.2.1 == X.2.1 && Z.2.2.1 == X.2.2.1 && (Z.2.2.2.1 == X.2.2.2.1 && Z.2.2.2.2 == X.2.2.2.2))) = decide (Z = X) := by
      rw [Bool.eq_iff_iff, decide_eq_true_eq]; exact eq5_iff
    rw [hE]
    by_cases e : Z = X
    · rw [decide_eq_true e]
      cases hx : X.1 with
      | true => rfl
      | false =>
        have z := nX.nz hx
        have k1 : X.2.1 ≠ 0 := fun h0 => by
          have i : In Z 0 := by rw [e, ← h0]; exact z.l
          exact ((iZ 0 I0).1 i).2 rfl |>.1 h0
        have k2 : X.2.2.1 ≠ 0 := fun h0 => by
          have i : In Z 0 := by rw [e]; have := z.h; rwa [h0] at this
          exact ((iZ 0 I0).1 i).2 rfl |>.2 h0
        simp [k1, k2]
    · rw [decide_eq_false e]
      have k0 : ¬ (X.1 = true ∨ X.2.1 ≠ 0 ∧ X.2.2.1 ≠ 0) := fun h => e (zsame h)
      have k1 : decide (In (Z.1, Z.2.1, Z.2.2.1, Z.2.2.2.1, Z.2.2.2.2) 0) = false := decide_eq_false fun i => k0 (.inr (((iZ 0 I0).1 i).2 rfl))
      rw [k1]
      simp only [not_or, Bool.not_eq_true] at k0
      rw [k0.1]
      by_cases h1 : X.2.1 = 0
      · simp [h1]
      · by_cases h2 : X.2.2.1 = 0
        · simp [h2]
        · exact (k0.2 ⟨h1, h2⟩).elim
  · have k1 : leqS (M.1, M.2.1, M.2.2.1, M.2.2.2.1, M.2.2.2.2) (a0, a1, a2, a3, a4) = true := (leq_iff rM ha).2 fun u hu i => ((iM u hu).1 i).1
    have k2 : leqS (M.1, M.2.1, M.2.2.1, M.2.2.2.1, M.2.2.2.2) (b0, b1, b2, b3, b4) = true := (leq_iff rM hb).2 fun u hu i => ((iM u hu).1 i).2
    have k3 : leqS (a0, a1, a2, a3, a4) (J.1, J.2.1, J.2.2.1, J.2.2.2.1, J.2.2.2.2) = true := (leq_iff ha rJ).2 sJ.1
    have hE : (X.1 == Y.1 && (X.2.1 == Y.2.1 && X.2.2.1 == Y.2.2.1 && (X.2.2.2.1 == Y.2.2.2.1 && X.2.2.2.2 == Y.2.2.2.2))) = decide (X = Y) := by
      rw [Bool.eq_iff_iff, decide_eq_true_eq]; exact eq5_iff
    rw [k1, k2, k3, hE]
    by_cases e : X = Y
    · have q := ext e
      rw [(leq_iff ha hb).2 q.1, (leq_iff hb ha).2 q.2]
      simp
    · simp [e]
theorem numForms.walk (a0 : Bool) (a1 a2 a3 a4 : Int) (b0 : Bool) (b1 b2 b3 b4 : Int) (c0 : Bool) (c1 c2 c3 c4 v : Int) (W : World) (h1 : (Lit.int .i64 a1).wf = true) (h2 : (Lit.int .i64 a2).wf = true) (h3 : (Lit.int .u64 a3).wf = true) (h4 : (Lit.int .u64 a4).wf = true) (g1 : (Lit.int .i64 b1).wf = true) (g2 : (Lit.int .i64 b2).wf = true) (g3 : (Lit.int .u64 b3).wf = true) (g4 : (Lit.int .u64 b4).wf = true) (f1 : (Lit.int .i64 c1).wf = true) (f2 : (Lit.int .i64 c2).wf = true) (f3 : (Lit.int .u64 c3).wf = true) (f4 : (Lit.int .u64 c4).wf = true) (h5 : (Lit.int .i64 v).wf = true) (hG : GOK G W) :
    Calls Tryz.prog 5 #[.agg #[.bool a0, .int .i64 a1, .int .i64 a2, .int .u64 a3, .int .u64 a4], .agg #[.bool b0, .int .i64 b1, .int .i64 b2, .int .u64 b3, .int .u64 b4], .agg #[.bool c0, .int .i64 c1, .int .i64 c2, .int .u64 c3, .int .u64 c4], .int .i64 v] W fun e w' => e = .returned (.bool true) ∧ Below W.heap.size W w' := by
  refine runF_calls' C.mixed C.names law_NumSets.t (H := { merge := true, glue := true }) (d := 60) (fun c _ => LoopsOK_nil c) Tryz.func5 hG (gok_lt C hG) (vs := [.agg #[.bool a0, .int .i64 a1, .int .i64 a2, .int .u64 a3, .int .u64 a4], .agg #[.bool b0, .int .i64 b1, .int .i64 b2, .int .u64 b3, .int .u64 b4], .agg #[.bool c0, .int .i64 c1, .int .i64 c2, .int .u64 c3, .int .u64 c4], .int .i64 v]) ?_
  rw [law_NumForms.r, numForms.v _ _ (raw5 (i64_wf h1) (i64_wf h2) (u64_wf h3) (u64_wf h4)) (raw5 (i64_wf g1) (i64_wf g2) (u64_wf g3) (u64_wf g4)) (raw5 (i64_wf f1) (i64_wf f2) (u64_wf f3) (u64_wf f4)) (i64_wf h5)]
end Go.Proofs.YtonpbbhlmapbdaaGreatDoor.V
