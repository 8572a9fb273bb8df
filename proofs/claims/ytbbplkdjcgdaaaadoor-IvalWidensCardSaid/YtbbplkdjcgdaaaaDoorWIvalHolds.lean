/- IvalHolds: the law function, evaluated: it answers true. Conditions: none. -/
import Derived.Test.YtbbplkdjcgdaaaaDoorN13
set_option linter.unusedVariables false
set_option linter.unusedSimpArgs false
namespace Go.Proofs.YtbbplkdjcgdaaaaDoor.V
open Go Go.Wk Go.RowKit

theorem asked_s (how b0 b1 c0 c1 : Int) : law_asked how b0 b1 c0 c1 = if how = 0 then ival_Neg b0 b1 else if how = 1 then ival_Add b0 b1 c0 c1 else if how = 2 then ival_Sub b0 b1 c0 c1 else if how = 3 then ival_Mul b0 b1 c0 c1 else if how = 4 then ival_Div b0 b1 c0 c1 else ival_Rem b0 b1 c0 c1 := by
  unfold law_asked law_asked.c law_asked.c0
  simp only [cbe, id]
theorem inside_k {γ : Type} (n : γ) (k : Int → γ) {a b v : Int} (ha : I64 a) (hb : I64 b) (hv : I64 v) (h : a ≤ b) : ∃ z, law_inside.c n k a b v = k z ∧ a ≤ z ∧ z ≤ b := by
  unfold I64 at ha hb hv
  unfold law_inside.c law_inside.c0
  simp only [cbe, cbd]
  have e : IntKind.u64.wrap (IntKind.u64.wrap b - IntKind.u64.wrap a) = b - a := by simp only [wu_eq]; omega
  rw [e]
  by_cases hz : IntKind.u64.wrap (b - a + 1) = 0
  · rw [if_pos hz]
    rw [wu_eq] at hz
    exact ⟨v, rfl, by omega, by omega⟩
  · rw [if_neg hz, if_neg hz]
    refine ⟨_, rfl, ?_⟩
    have e2 : IntKind.u64.wrap (b - a + 1) = b - a + 1 := by rw [wu_eq] at hz ⊢; omega
    rw [e2]
    have m1 := Int.tmod_nonneg (a := IntKind.u64.wrap v) (b - a + 1) (wu_lo v)
    have m2 := Int.tmod_lt_of_pos (IntKind.u64.wrap v) (show 0 < b - a + 1 by omega)
    generalize (IntKind.u64.wrap v).tmod (b - a + 1) = m at m1 m2 ⊢
    simp only [wu_eq, wi_eq]
    omega
theorem empty_ask {a b c d how : Int} (ha : I64 a) (hb : I64 b) (hc : I64 c) (hd : I64 d) (h : b < a ∨ d < c) (h0 : how ≠ 0 ∨ b < a) : law_asked how a b c d = (1, 0, true) := by
  have k1 : ∀ x y : Bool, (bif x then true else y) = (x || y) := by intro x y; cases x <;> rfl
  rw [asked_s]
  by_cases c0 : how = 0
  · rw [if_pos c0]
    have h : b < a := by omega
    unfold ival_Neg ival_Neg.c ival_Neg.c0 ival_Sub ival_Sub.c ival_Sub.c0
    simp only [none_s, id]
    rw [decide_eq_true h]; rfl
  · rw [if_neg c0]
    have e : ∀ X : Int × Int × Bool, (bif ival_none a b then (1, 0, true) else bif ival_none c d then (1, 0, true) else X) = (1, 0, true) := by
      intro X
      simp only [none_s]
      by_cases g : b < a
      · rw [decide_eq_true g]; rfl
      · rw [decide_eq_false g, decide_eq_true (show d < c by omega)]; rfl
    split
    · exact e _
    · split
      · exact e _
      · split
        · rw [mul_eq ha hb hc hd, ref_Mul_s ha hb hc hd]; unfold mulS; rw [if_pos (by omega)]
        · split
          · exact e _
          · exact e _
theorem l0_true {a b c d x y : Int} (ha : I64 a) (hb : I64 b) (hc : I64 c) (hd : I64 d) (h : b < a ∨ d < c) : ∀ (m : Nat) (i : Int), 0 ≤ i → i ≤ 6 → 6 - i < m → law_IvalHolds.L0 8 m (i, a, b, c, d, x, y) = some true := by
  intro m
  induction m with
  | zero => intro i h0 h1 h2; omega
  | succ m ih =>
    intro i h0 h1 h2
    unfold law_IvalHolds.L0 law_IvalHolds.l0.c law_IvalHolds.l0.c0
    simp only
    by_cases h6 : i < 6
    · have w : IntKind.i64.wrap (i + 1) = i + 1 := wi_id (by omega) (by omega)
      have ih' := ih (i + 1) (by omega) (by omega) (by omega)
      rw [decide_eq_true h6, w]
      simp only [cond_true]
      by_cases g : i > 0
      · rw [decide_eq_true g, empty_ask ha hb hc hd h (.inl (by omega))]
        exact ih'
      · rw [decide_eq_false g]
        by_cases k : a > b
        · rw [decide_eq_true k, empty_ask ha hb hc hd h (.inr (by omega))]
          exact ih'
        · rw [decide_eq_false k]; exact ih'
    · rw [decide_eq_false h6]; rfl
theorem asked_in {a b c d x y how : Int} (ha : I64 a) (hb : I64 b) (hc : I64 c) (hd : I64 d) (h1 : a ≤ x) (h2 : x ≤ b) (h3 : c ≤ y) (h4 : y ≤ d) (ht : (doneS how x y).2.1 = true) :
    ((law_asked how a b c d).1 ≤ (doneS how x y).1 ∧ (doneS how x y).1 ≤ (law_asked how a b c d).2.1) ∧ ((law_asked how a b c d).2.2 = true → (doneS how x y).2.2 = false) := by
  have fd : ∀ {z : Int}, fit z → decide (¬ fit z) = false := fun h => decide_eq_false (fun h' => h' h)
  rw [asked_s]
  unfold doneS at ht ⊢
  by_cases c0 : how = 0
  · simp only [if_pos c0, neg_span ha hb (by omega)]
    have e : -x = 0 - x := by omega
    rw [e]
    exact ⟨span_in (by omega) (by omega), fun h => fd (span_fit (l := 0 - b) (h := 0 - a) (by omega) (by omega) h)⟩
  · simp only [if_neg c0] at ht ⊢
    by_cases c1 : how = 1
    · simp only [if_pos c1, add_span ha hb hc hd (by omega) (by omega : c ≤ d)]
      exact ⟨span_in (by omega) (by omega), fun h => fd (span_fit (l := a + c) (h := b + d) (by omega) (by omega) h)⟩
    · simp only [if_neg c1] at ht ⊢
      by_cases c2 : how = 2
      · simp only [if_pos c2, sub_span ha hb hc hd (by omega) (by omega : c ≤ d)]
        exact ⟨span_in (by omega) (by omega), fun h => fd (span_fit (l := a - d) (h := b - c) (by omega) (by omega) h)⟩
      · simp only [if_neg c2] at ht ⊢
        by_cases c3 : how = 3
        · simp only [if_pos c3, mul_eq ha hb hc hd, ref_Mul_s ha hb hc hd]
          have := mul_in h1 h2 h3 h4
          exact ⟨this.1, fun h => fd (this.2 h)⟩
        · simp only [if_neg c3] at ht ⊢
          by_cases y0 : y = 0
          · rw [if_pos y0] at ht; simp at ht
          · simp only [if_neg y0]
            by_cases c4 : how = 4
            · simp only [if_pos c4]
              have := div_in ha hb hc hd h1 h2 h3 h4 y0
              exact ⟨this.1, fun h => decide_eq_false (this.2 h)⟩
            · simp only [if_neg c4]
              have hr := rem_in ha hb hc hd h1 h2 h3 h4 y0
              have e : (if y = -1 then 0 else x.tmod y) = x.tmod y := by
                split
                · rename_i e; subst e
                  have f3 := (tmod_facts x (-1) (by omega)).2.2.1
                  unfold absI at f3; revert f3; (repeat' split) <;> intro f3 <;> omega
                · rfl
              rw [e]
              exact ⟨hr, fun _ => trivial⟩
theorem l1_true {a b c d x y u v : Int} (ha : I64 a) (hb : I64 b) (hc : I64 c) (hd : I64 d) (h1 : a ≤ x) (h2 : x ≤ b) (h3 : c ≤ y) (h4 : y ≤ d) : ∀ (m : Nat) (i : Int), 0 ≤ i → i ≤ 6 → 6 - i < m → law_IvalHolds.L1 8 m (x, y, i, a, b, c, d, u, v) = some true := by
  have hx : I64 x := by unfold I64 at *; omega
  have hy : I64 y := by unfold I64 at *; omega
  intro m
  induction m with
  | zero => intro i h0 h1 h2; omega
  | succ m ih =>
    intro i h0 h5 h6
    unfold law_IvalHolds.L1 law_IvalHolds.l1.c law_IvalHolds.l1.c0
    simp only [done_ok i hx hy, done_s i hx hy, ih_s, ij_s, im_s, cond_true]
    by_cases h7 : i < 6
    · have w : IntKind.i64.wrap (i + 1) = i + 1 := wi_id (by omega) (by omega)
      have ih' := ih (i + 1) (by omega) (by omega) (by omega)
      rw [decide_eq_true h7, w, ih']
      simp only [cond_true]
      cases ht : (doneS i x y).2.1 with
      | false => rfl
      | true =>
        obtain ⟨k1, k2⟩ := asked_in (how := i) ha hb hc hd h1 h2 h3 h4 ht
        rw [decide_eq_true k1]
        cases he : (law_asked i a b c d).2.2 with
        | false => rfl
        | true => rw [k2 he]; rfl
    · rw [decide_eq_false h7]
      have g1 : decide (a ≤ x ∧ x ≤ b) = true := by simp; omega
      have jm : jn a b c d = (min a c, max b d) := by unfold jn; rw [if_neg (by omega), if_neg (by omega)]; congr 1 <;> split <;> omega
      have g4 : decide ((mt a b c d).1 ≤ x ∧ x ≤ (mt a b c d).2) = decide (c ≤ x ∧ x ≤ d) := by rw [decide_eq_decide, mt_mem]; omega
      have g5 : decide ((mt a b c d).1 ≤ y ∧ y ≤ (mt a b c d).2) = decide (a ≤ y ∧ y ≤ b) := by rw [decide_eq_decide, mt_mem]; omega
      have nb : ∀ p : Bool, (!(p == p)) = false := by intro p; cases p <;> rfl
      have g2 : decide (min a c ≤ x ∧ x ≤ max b d) = true := by simp; omega
      have g3 : decide (min a c ≤ y ∧ y ≤ max b d) = true := by simp; omega
      simp only [cond_false, g1, g2, g3, g4, g5, nb, jm, Bool.not_true]
      have q1 : ival_Leq a b (min a c) (max b d) = true := by
        unfold ival_Leq ival_Leq.c; (try unfold ival_Leq.c0); simp only [none_s, id]
        rw [decide_eq_false (show ¬ b < a by omega)]; simp; omega
      have q2 : ival_Leq (mt a b c d).1 (mt a b c d).2 c d = true := by
        have m1 := mt_m a b c d
        unfold ival_Leq ival_Leq.c; (try unfold ival_Leq.c0); simp only [none_s, id]
        rw [m1]
        by_cases e : min b d < max a c
        · rw [if_pos e]; rfl
        · rw [if_neg e]; simp only; rw [decide_eq_false e]; simp; omega
      rw [q1, q2]
      simp only [cond_true]
      cases q : ival_Leq a b c d with
      | false => rfl
      | true =>
        unfold ival_Leq ival_Leq.c at q; (try unfold ival_Leq.c0 at q); simp only [none_s, id] at q
        rw [decide_eq_false (show ¬ b < a by omega)] at q
        simp at q
        simp; omega
theorem ivalHolds.walk (a b c d x y : Int) (W : World) (h1 : (Lit.int .i64 a).wf = true) (h2 : (Lit.int .i64 b).wf = true) (h3 : (Lit.int .i64 c).wf = true) (h4 : (Lit.int .i64 d).wf = true) (h5 : (Lit.int .i64 x).wf = true) (h6 : (Lit.int .i64 y).wf = true) (hG : GOK G W) :
    Calls Tryd.prog 7 #[.agg #[.int .i64 a, .int .i64 b, .int .i64 c, .int .i64 d, .int .i64 x, .int .i64 y]] W fun e w' => e = .returned (.bool true) ∧ Below W.heap.size W w' := by
  have ha := i64_wf h1; have hb := i64_wf h2; have hc := i64_wf h3; have hd := i64_wf h4; have hx := i64_wf h5; have hy := i64_wf h6
  have ho : law_IvalHolds.o 8 a b c d x y = some true := by
    unfold law_IvalHolds.o law_IvalHolds.c law_IvalHolds.c0
    simp only
    by_cases e1 : a > b
    · rw [decide_eq_true e1]; exact l0_true ha hb hc hd (.inl e1) 8 0 (by omega) (by omega) (by omega)
    · by_cases e2 : c > d
      · rw [decide_eq_false e1, decide_eq_true e2]; exact l0_true ha hb hc hd (.inr e2) 8 0 (by omega) (by omega) (by omega)
      · obtain ⟨_, k1, _, _⟩ := inside_k false (fun _ => true) ha hb hx (by omega)
        obtain ⟨_, k2, _, _⟩ := inside_k false (fun _ => true) hc hd hy (by omega)
        obtain ⟨z1, k3, p1, p2⟩ := inside_k (0 : Int) id ha hb hx (by omega)
        obtain ⟨z2, k4, p3, p4⟩ := inside_k (0 : Int) id hc hd hy (by omega)
        unfold law_inside.ok law_inside
        rw [decide_eq_false e1, decide_eq_false e2, k1, k2, k3, k4]
        exact l1_true ha hb hc hd p1 p2 p3 p4 8 0 (by omega) (by omega) (by omega)
  have hg : law_IvalHolds.g a b c d x y = true := by unfold law_IvalHolds.g; rw [ho]; rfl
  have hv : law_IvalHolds a b c d x y = true := by unfold law_IvalHolds; rw [ho]; rfl
  have hF : law_IvalHolds.F [.agg #[.int .i64 a, .int .i64 b, .int .i64 c, .int .i64 d, .int .i64 x, .int .i64 y]] = some (true, .bool true) := by
    show some (law_IvalHolds.g a b c d x y, law_IvalHolds.val (law_IvalHolds a b c d x y)) = _
    rw [hg, hv]; rfl
  exact (law_IvalHolds.t 7 law_IvalHolds.F rfl).2 _ _ W hG hF
end Go.Proofs.YtbbplkdjcgdaaaaDoor.V
