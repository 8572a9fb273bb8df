/- The program's Compare and Negate of chapter 14; sums and differences backwards; the fixed facts. Conditions: none. -/
import Derived.Test.YtonpbbhlmapbdaaGreatDoorMB
import Derived.Test.YtonpbbhlmapbdaaGreatDoorF4
set_option linter.unusedVariables false
set_option linter.unusedSimpArgs false
namespace Go.Proofs.YtonpbbhlmapbdaaGreatDoor.V
open Go Go.Wk Go.RowKit
theorem inv_Negate_s (op : Int) : inv_Negate op = if isCmp op then (negO op, 0) else (0, 1) := by
  unfold inv_Negate inv_Negate.c negO isCmp
  by_cases h1 : op = 8
  · subst h1; rfl
  by_cases h2 : op = 9
  · subst h2; rfl
  by_cases h3 : op = 10
  · subst h3; rfl
  by_cases h4 : op = 11
  · subst h4; rfl
  by_cases h5 : op = 12
  · subst h5; rfl
  by_cases h6 : op = 13
  · subst h6; rfl
  simp [Bool.cond_eq_ite, h1, h2, h3, h4, h5, h6]
section
variable {x y z : Nm}
theorem turned_ten (p : Nm × Nm) : inv_turned (ten p).1 (ten p).2.1 (ten p).2.2.1 (ten p).2.2.2.1 (ten p).2.2.2.2.1 (ten p).2.2.2.2.2.1 (ten p).2.2.2.2.2.2.1 (ten p).2.2.2.2.2.2.2.1 (ten p).2.2.2.2.2.2.2.2.1 (ten p).2.2.2.2.2.2.2.2.2 = ten (p.2, p.1) := rfl
theorem inv_Compare_k {γ : Type} (n : γ) (k : Bool × Int × Int × Int × Int × Bool × Int × Int × Int × Int × Int → γ) {op : Int} (hx : Raw x) (hy : Raw y) :
    inv_Compare.c n k op x.1 x.2.1 x.2.2.1 x.2.2.2.1 x.2.2.2.2 y.1 y.2.1 y.2.2.1 y.2.2.2.1 y.2.2.2.2 = k (if isCmp op then app11 (cmpS op x y) 0 else app11 (botS, botS) 1) := by
  unfold inv_Compare.c inv_Compare.c0 cmpS
  have nX := norm_nf hx
  have nY := norm_nf hy
  simp only [nN_s hx, nN_s hy, num_Bot_s]
  generalize normS x = X at *
  generalize normS y = Y at *
  have rX := nX.raw
  have rY := nY.raw
  by_cases hop : isCmp op
  · rw [if_pos hop]
    by_cases hX : X.1 = true
    · rcases hop with rfl | rfl | rfl | rfl | rfl | rfl <;> simp [hX, app11, botS]
    by_cases hY : Y.1 = true
    · rcases hop with rfl | rfl | rfl | rfl | rfl | rfl <;> simp [hX, hY, app11, botS]
    have hX : X.1 = false := by simpa using hX
    have hY : Y.1 = false := by simpa using hY
    rw [if_neg (by simp [hX, hY])]
    simp only [inv_below_ok rX rY, inv_below_s rX rY, inv_below_ok rY rX, inv_below_s rY rX, inv_upTo_ok rX rY, inv_upTo_s rX rY, inv_upTo_ok rY rX, inv_upTo_s rY rX, inv_sides1_ok rX rY, inv_sides1_s rX rY, inv_sides2_ok nX nY hX hY, inv_sides2_s nX nY hX hY, told_ten, turned_ten, ten_app, cond_true]
    simp only [hX, hY, cond_false]
    rcases hop with rfl | rfl | rfl | rfl | rfl | rfl
    · rfl
    · rfl
    · rfl
    · rfl
    · rfl
    · rfl
  · rw [if_neg hop]
    unfold isCmp at hop
    simp only [not_or] at hop
    obtain ⟨h1, h2, h3, h4, h5, h6⟩ := hop
    simp [Bool.cond_eq_ite, h1, h2, h3, h4, h5, h6, app11, botS]
theorem inv_Compare_ok {op : Int} (hx : Raw x) (hy : Raw y) : inv_Compare.ok op x.1 x.2.1 x.2.2.1 x.2.2.2.1 x.2.2.2.2 y.1 y.2.1 y.2.2.1 y.2.2.2.1 y.2.2.2.2 = true := inv_Compare_k _ _ hx hy
theorem inv_Compare_s {op : Int} (hx : Raw x) (hy : Raw y) : inv_Compare op x.1 x.2.1 x.2.2.1 x.2.2.2.1 x.2.2.2.2 y.1 y.2.1 y.2.2.1 y.2.2.2.1 y.2.2.2.2 = if isCmp op then app11 (cmpS op x y) 0 else app11 (botS, botS) 1 := inv_Compare_k _ _ hx hy
theorem inv_Solve3_k {γ : Type} (n : γ) (k : Bool × Int × Int × Int × Int × Bool × Int × Int × Int × Int × Int → γ) (hx : NF x) (hy : NF y) (hz : NF z) (bx : x.1 = false) (by' : y.1 = false) (bz : z.1 = false) :
    inv_Solve.c n k 3 x.1 x.2.1 x.2.2.1 x.2.2.2.1 x.2.2.2.2 y.1 y.2.1 y.2.2.1 y.2.2.2.1 y.2.2.2.2 z.1 z.2.1 z.2.2.1 z.2.2.2.1 z.2.2.2.2 = k (app11 (bothS (addP x y z)) 0) := by
  unfold inv_Solve.c inv_Solve.c0
  simp only [nN_s hx.raw, nN_s hy.raw, nN_s hz.raw, norm_fix hx, norm_fix hy, norm_fix hz, show ((3 : Int) == 1) = false from rfl, show ((3 : Int) == 3) = true from rfl, cond_true, cond_false, inv_added_ok hx.raw hy.raw hz.raw, inv_added_s hx.raw hy.raw hz.raw, told_ten, ten_app]
  simp only [bx, by', bz, cond_false]
end
/-! the fixed facts -/
theorem range_in {a b v : Int} (ha : I64 a) (hb : I64 b) (hv : I64 v) : In (rangeS a b) v ↔ a ≤ v ∧ v ≤ b := by
  unfold rangeS; rw [make_in ha hb U1 U0 hv]
  exact ⟨fun h => h.1, fun h => ⟨h, has_one v⟩⟩
theorem range_nf {a b : Int} (ha : I64 a) (hb : I64 b) : NF (rangeS a b) := make_nf ha hb U1 U0
theorem meet_range {a b c d : Int} (ha : I64 a) (hb : I64 b) (hc : I64 c) (hd : I64 d) {l u : Int} (hl : I64 l) (hu : I64 u) (e1 : max a c = l) (e2 : min b d = u) : meetS (rangeS a b) (rangeS c d) = rangeS l u := by
  refine nf_iff (meet_nf (range_nf ha hb).raw (range_nf hc hd).raw) (range_nf hl hu) fun v hv => ?_
  rw [meet_in (range_nf ha hb).raw (range_nf hc hd).raw hv, range_in ha hb hv, range_in hc hd hv, range_in hl hu hv]
  omega
theorem sub_at (a b c d : Int) (ha : I64 a) (hb : I64 b) (hc : I64 c) (hd : I64 d) (m r m' r' : Int) (nx : NF (false, a, b, m, r)) (ny : NF (false, c, d, m', r')) (hm : m' = 1 ∨ m = 1) (h0 : r = 0 ∧ m = 1 ∨ r' = 0 ∧ m' = 1) (hm1 : m = 0 ∨ m = 1) (hm2 : m' = 0 ∨ m' = 1) (l u : Int) (hl : -1000 < a - d) (hu : b - c < 1000) (el : a - d = l) (eu : b - c = u) :
    applyS 4 (false, a, b, m, r) (false, c, d, m', r') = makeS l u 1 0 := by
  unfold applyS
  rw [norm_fix nx, norm_fix ny]
  have e3 : rhs 4 ((false, c, d, m', r') : Nm) = (false, c, d, m', r') := by unfold rhs; rw [if_neg (by decide)]
  rw [e3, if_neg (by simp)]
  unfold applyN
  simp only [show ¬ (4 : Int) = 1 by decide, show ¬ (4 : Int) = 3 by decide, if_true, if_false]
  have zx := nx.nz rfl
  have zy := ny.nz rfl
  have lx := zx.le
  have ly := zy.le
  simp only at lx ly
  have e4 : A.ival_Sub a b c d = (l, u, true) := by
    rw [A.sub_span ha hb hc hd lx ly]
    unfold A.span_s A.cnt
    have q1 : (a - d + 9223372036854775808) / 18446744073709551616 = 0 := by omega
    have q2 : (b - c + 9223372036854775808) / 18446744073709551616 = 0 := by omega
    rw [q1, q2, if_pos rfl, wi_id (by omega) (by omega), wi_id (by omega) (by omega), el, eu]; rfl
  rw [e4]
  have g : B.gg m m' = 1 := by rcases hm1 with rfl | rfl <;> rcases hm2 with rfl | rfl <;> first | rfl | (exfalso; omega)
  have e5 : B.subS m r m' r' true = (1, 0) := by
    unfold B.subS
    rw [if_neg (by omega), g, B.bm_t (by decide)]
    simp
  show mk4 (l, u, true) (B.subS m r m' r' true) = _
  rw [e5]; rfl
theorem taken_k {γ : Type} (n : γ) (k : Bool → γ) : law_taken.c n k = k true := by
  have i := fun (a : Int) (h : -1000 < a ∧ a < 1000) => Ik a h
  have n0 := range_nf (i 0 (by decide)) (i 10 (by decide))
  have n1 := range_nf (i 1 (by decide)) (i 2 (by decide))
  have n5 : NF (constS 5) := .one (i 5 (by decide))
  have n9 := range_nf (i 0 (by decide)) (i 9 (by decide))
  have n6 := range_nf (i 0 (by decide)) (i 5 (by decide))
  have c5 : constS 5 = (false, 5, 5, 0, 5) := by decide +kernel
  have c1 : rangeS 1 2 = (false, 1, 2, 1, 0) := by decide +kernel
  have c0 : rangeS 0 10 = (false, 0, 10, 1, 0) := by decide +kernel
  have p1 : applyS 4 (constS 5) (rangeS 1 2) = rangeS 3 4 := by
    rw [c5] at n5 ⊢; rw [c1] at n1 ⊢
    exact sub_at 5 5 1 2 (i 5 (by decide)) (i 5 (by decide)) (i 1 (by decide)) (i 2 (by decide)) 0 5 1 0 n5 n1 (.inl rfl) (.inr ⟨rfl, rfl⟩) (.inl rfl) (.inr rfl) 3 4 (by decide) (by decide) (by decide) (by decide)
  have p2 : applyS 4 (constS 5) (rangeS 0 10) = rangeS (-5) 5 := by
    rw [c5] at n5 ⊢; rw [c0] at n0 ⊢
    exact sub_at 5 5 0 10 (i 5 (by decide)) (i 5 (by decide)) (i 0 (by decide)) (i 10 (by decide)) 0 5 1 0 n5 n0 (.inl rfl) (.inr ⟨rfl, rfl⟩) (.inl rfl) (.inr rfl) (-5) 5 (by decide) (by decide) (by decide) (by decide)
  have s1 : bothS (addP (rangeS 0 10) (rangeS 1 2) (constS 5)) = (rangeS 3 4, rangeS 1 2) := by
    unfold addP
    rw [p1, p2, meet_range (l := 3) (u := 4) (i 0 (by decide)) (i 10 (by decide)) (i 3 (by decide)) (i 4 (by decide)) (i 3 (by decide)) (i 4 (by decide)) (by decide) (by decide),
      meet_range (l := 1) (u := 2) (i 1 (by decide)) (i 2 (by decide)) (i (-5) (by decide)) (i 5 (by decide)) (i 1 (by decide)) (i 2 (by decide)) (by decide) (by decide)]
    decide +kernel
  have s2 : cmpS 8 (rangeS 0 9) (rangeS 0 5) = (rangeS 0 4, rangeS 1 5) := by
    unfold cmpS
    have e1 : normS (rangeS 0 9) = rangeS 0 9 := norm_fix n9
    have e2 : normS (rangeS 0 5) = rangeS 0 5 := norm_fix n6
    rw [e1, e2, if_neg (by decide +kernel)]
    unfold cmpN ltS
    have f1 : IntKind.i64.wrap ((rangeS 0 5).2.2.1 - 1) = 4 := by decide +kernel
    have f2 : IntKind.i64.wrap ((rangeS 0 9).2.1 + 1) = 1 := by decide +kernel
    rw [if_pos rfl, if_neg (by decide +kernel), f1, f2]
    unfold toS fromS
    rw [meet_range (l := 0) (u := 4) (i 0 (by decide)) (i 9 (by decide)) Imin (i 4 (by decide)) (i 0 (by decide)) (i 4 (by decide)) (by decide) (by decide),
      meet_range (l := 1) (u := 5) (i 0 (by decide)) (i 5 (by decide)) (i 1 (by decide)) Imax (i 1 (by decide)) (i 5 (by decide)) (by decide) (by decide)]
    decide +kernel
  have o8 : isCmp 8 := by decide
  have so : inv_Solve.ok 3 (rangeS 0 10).1 (rangeS 0 10).2.1 (rangeS 0 10).2.2.1 (rangeS 0 10).2.2.2.1 (rangeS 0 10).2.2.2.2 (rangeS 1 2).1 (rangeS 1 2).2.1 (rangeS 1 2).2.2.1 (rangeS 1 2).2.2.2.1 (rangeS 1 2).2.2.2.2 (constS 5).1 (constS 5).2.1 (constS 5).2.2.1 (constS 5).2.2.2.1 (constS 5).2.2.2.2 = true := inv_Solve3_k (x := rangeS 0 10) (y := rangeS 1 2) (z := constS 5) _ _ n0 n1 n5 (by decide +kernel) (by decide +kernel) (by decide +kernel)
  have ss : inv_Solve 3 (rangeS 0 10).1 (rangeS 0 10).2.1 (rangeS 0 10).2.2.1 (rangeS 0 10).2.2.2.1 (rangeS 0 10).2.2.2.2 (rangeS 1 2).1 (rangeS 1 2).2.1 (rangeS 1 2).2.2.1 (rangeS 1 2).2.2.2.1 (rangeS 1 2).2.2.2.2 (constS 5).1 (constS 5).2.1 (constS 5).2.2.1 (constS 5).2.2.2.1 (constS 5).2.2.2.2 = app11 (rangeS 3 4, rangeS 1 2) 0 := (inv_Solve3_k (x := rangeS 0 10) (y := rangeS 1 2) (z := constS 5) _ _ n0 n1 n5 (by decide +kernel) (by decide +kernel) (by decide +kernel)).trans (by rw [s1]; rfl)
  have co : inv_Compare.ok 8 (rangeS 0 9).1 (rangeS 0 9).2.1 (rangeS 0 9).2.2.1 (rangeS 0 9).2.2.2.1 (rangeS 0 9).2.2.2.2 (rangeS 0 5).1 (rangeS 0 5).2.1 (rangeS 0 5).2.2.1 (rangeS 0 5).2.2.2.1 (rangeS 0 5).2.2.2.2 = true := inv_Compare_ok n9.raw n6.raw
  have cs : inv_Compare 8 (rangeS 0 9).1 (rangeS 0 9).2.1 (rangeS 0 9).2.2.1 (rangeS 0 9).2.2.2.1 (rangeS 0 9).2.2.2.2 (rangeS 0 5).1 (rangeS 0 5).2.1 (rangeS 0 5).2.2.1 (rangeS 0 5).2.2.2.1 (rangeS 0 5).2.2.2.2 = app11 (rangeS 0 4, rangeS 1 5) 0 := (inv_Compare_s n9.raw n6.raw).trans (by rw [if_pos o8, s2])
  unfold law_taken.c law_taken.c0
  simp only [nref_Range_ok (i 0 (by decide)) (i 10 (by decide)), nref_Range_s (i 0 (by decide)) (i 10 (by decide)), nref_Range_ok (i 1 (by decide)) (i 2 (by decide)), nref_Range_s (i 1 (by decide)) (i 2 (by decide)), nref_Range_ok (i 0 (by decide)) (i 9 (by decide)), nref_Range_s (i 0 (by decide)) (i 9 (by decide)), nref_Range_ok (i 0 (by decide)) (i 5 (by decide)), nref_Range_s (i 0 (by decide)) (i 5 (by decide)), nref_Range_ok (i 3 (by decide)) (i 4 (by decide)), nref_Range_s (i 3 (by decide)) (i 4 (by decide)), nref_Range_ok (i 0 (by decide)) (i 4 (by decide)), nref_Range_s (i 0 (by decide)) (i 4 (by decide)), nref_Range_ok (i 1 (by decide)) (i 5 (by decide)), nref_Range_s (i 1 (by decide)) (i 5 (by decide)), nref_Const_s, so, ss, co, cs, inv_Negate_s, if_pos o8, app11, beq_self_eq_true, bne_self_eq_false, cond_true, cond_false, Bool.true_or, Bool.or_true, Bool.true_and, Bool.and_true, Bool.not_true, Bool.not_false]
  rfl
theorem taken_ok : law_taken.ok = true := taken_k _ _
theorem taken_s : law_taken = true := taken_k _ _
end Go.Proofs.YtonpbbhlmapbdaaGreatDoor.V
