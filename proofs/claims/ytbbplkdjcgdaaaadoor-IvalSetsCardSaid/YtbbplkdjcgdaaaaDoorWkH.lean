/- The walk by evaluation, part H: what the evaluator answers, the model does. Conditions: none. -/
import Derived.Test.YtbbplkdjcgdaaaaDoorWkD4
set_option autoImplicit false
set_option linter.unusedVariables false
set_option linter.unusedSimpArgs false
set_option linter.unnecessarySimpa false
namespace Go.Wk
open Go Go.RowKit

def ex {R : Type} (P : Program) (G : Glob) (T : Tab) (H : Heads) : Nat → Code → St → (Xt → St → Option R) → Option R
  | 0, _, _, _ => none
  | d + 1, c, st, k => match c with
    | .skip => k .nrm st
    | .label _ => k .nrm st
    | .region _ ops draw => bif draw then exD P G T ops st (k .nrm)
        else exOps P G T (ex P G T H d) ops ops.toList st.blks.length { st with blks := st.blks ++ nones (news ops.toList) } (k .nrm)
    | .seq a b => ex P G T H d a st fun e st' => match e with
        | .nrm => ex P G T H d b st' k
        | e => k e st'
    | .cond c x y => match ev st.tmps c with
        | .val (.bool b) => bif b then ex P G T H d x (litC st c true) k else ex P G T H d y (litC st c false) k
        | _ => none
    | .block id body => ex P G T H d body st fun e st' => match e with
        | .ext i => bif Nat.beq i id then k .nrm st' else k e st'
        | e => k e st'
    | .loop body => ex P G T H d body (headT H body st) fun e st' => match e with
        | .nrm => ex P G T H d (.loop body) st' k
        | e => k e st'
    | .exit id => k (.ext id) st
    | .scope body => ex P G T H d body st k
    | .ret => k .ret st
    | _ => none


section
variable {P : Program} {G : Glob} {T : Tab} {R : Type}

theorem Good.mono {c : Code} {st : St} {H H' : Xt → St → Prop} (h : Good P G c st H) (hh : ∀ e st', H e st' → H' e st') : Good P G c st H' :=
  fun base ρ a sv w Q S hQ => h base ρ a sv w Q S fun e st' ρ' a' w' h1 => hQ e st' ρ' a' w' (hh _ _ h1)

theorem ex_sound' (hM : P.follows .mixedOrders = true) (hN : NoCount P) (hT : TabOK P G T) (H : Heads) : ∀ d, RecOK (R := R) P G (ex P G T H d) ∧
    ∀ (body : Code) (st : St) (k : Xt → St → Option R) (r : R), ex P G T H d (.loop body) st k = some r → ∀ (base : Nat) (ρ : Nat → Nat) (a : Act) (sv : List (List Value)) (w : World) (Q : Exit → Act → World → Prop), SRel G base ρ st a sv w →
      (∀ e st' ρ' a' w', k e st' = some r → SRel G base ρ' st' a' sv w' → Below base w w' → Q e.to a' w') → Code.rounds P body Q d a w
  | 0 => ⟨by intro c st k r h; simp [ex] at h, by intro body st k r h; simp [ex] at h⟩
  | d + 1 => by
    obtain ⟨ih, ihl⟩ := ex_sound' hM hN hT H d
    have lp : ∀ (body : Code) (st : St) (k : Xt → St → Option R) (r : R), ex P G T H (d + 1) (.loop body) st k = some r → ∀ (base : Nat) (ρ : Nat → Nat) (a : Act) (sv : List (List Value)) (w : World) (Q : Exit → Act → World → Prop), SRel G base ρ st a sv w →
      (∀ e st' ρ' a' w', k e st' = some r → SRel G base ρ' st' a' sv w' → Below base w w' → Q e.to a' w') → Code.rounds P body Q (d + 1) a w := by
      intro body st k r h base ρ a sv w Q S hQ
      simp only [ex] at h
      rw [rounds_succ]
      refine ih body _ _ r h base ρ a sv w _ (headT_rel S) ?_
      intro e st' ρ' a' w' hk S' hb
      cases e with
      | nrm => exact ihl body st' k r hk base ρ' a' sv w' Q S' fun e2 st2 ρ2 a2 w2 h2 S2 hb2 => hQ e2 st2 ρ2 a2 w2 h2 S2 (hb.trans hb2)
      | ext i => exact hQ _ _ _ _ _ hk S' hb
      | ret => exact hQ _ _ _ _ _ hk S' hb
    refine ⟨?_, lp⟩
    intro c st k r h base ρ a sv w Q S hQ
    by_cases hlp : ∃ body, c = .loop body
    · obtain ⟨body, rfl⟩ := hlp
      exact wp_loop_rounds (d + 1) (lp body st k r h base ρ a sv w Q S hQ)
    cases c <;> simp only [ex] at h <;> try (simp at h; done)
    case skip => exact wp_skip (hQ _ _ _ _ _ h S (Below.refl _ _))
    case label l => exact wp_label (hQ _ _ _ _ _ h S (Below.refl _ _))
    case exit id => exact wp_exit (hQ (.ext id) _ _ _ _ h S (Below.refl _ _))
    case ret => exact wp_ret (hQ .ret _ _ _ _ h S (Below.refl _ _))
    case region id ops draw =>
      cases draw with
      | true =>
        simp only [cond_true] at h
        exact exD_wp hM hT h base ρ a sv w Q S fun e st' ρ' a' w' ⟨he, hk⟩ => by subst he; exact hQ _ _ _ _ _ hk
      | false =>
        simp only [cond_false] at h
        refine wp_region_list (exOps_wp hN hT ih ops.toList _ _ ρ a w ?_ h fun st' ρ' a' w' hk S' hb => hQ .nrm _ _ _ _ hk S' hb)
        exact S.tidy fun i b hb => blk?_nones _ _ i b hb
    case seq x y =>
      refine wp_seq (ih x st _ r h base ρ a sv w _ S ?_)
      intro e st' ρ' a' w' hk S' hb
      cases e with
      | nrm => exact ih y st' k r hk base ρ' a' sv w' Q S' fun e2 st2 ρ2 a2 w2 h2 S2 hb2 => hQ e2 st2 ρ2 a2 w2 h2 S2 (hb.trans hb2)
      | ext i => exact hQ _ _ _ _ _ hk S' hb
      | ret => exact hQ _ _ _ _ _ hk S' hb
    case cond c x y =>
      split at h <;> try (simp at h; done)
      rename_i b hc
      have hr := ev_rl S.tm c
      rw [hc] at hr
      simp only [SV.rl] at hr
      have hl : litC st c b = st := by
        cases c with
        | tmp t => exact lit_same st t b hc
        | _ => rfl
      refine wp_cond hr ?_
      cases b with
      | true =>
        simp only [cond_true] at h
        rw [hl] at h
        exact ih x st k r h base ρ a sv w Q S hQ
      | false =>
        simp only [cond_false] at h
        rw [hl] at h
        exact ih y st k r h base ρ a sv w Q S hQ
    case block id body =>
      refine wp_block (ih body st _ r h base ρ a sv w _ S ?_)
      intro e st' ρ' a' w' hk S' hb
      cases e with
      | nrm => exact hQ _ _ _ _ _ hk S' hb
      | ret => exact hQ _ _ _ _ _ hk S' hb
      | ext i =>
        cases hi : Nat.beq i id with
        | true =>
          simp only [hi, cond_true] at hk
          have := Nat.eq_of_beq_eq_true hi
          subst this
          simp only [Xt.to, Exit.inBlock, if_true]
          exact hQ .nrm _ _ _ _ hk S' hb
        | false =>
          simp only [hi, cond_false] at hk
          have : i ≠ id := fun e => by subst e; simp at hi
          simp only [Xt.to, Exit.inBlock, this, if_false]
          exact hQ (.ext i) _ _ _ _ hk S' hb
    case loop body => exact absurd ⟨body, rfl⟩ hlp
    case scope body =>
      refine wp_scope_straight (ih body st k r h base ρ a sv w _ S ?_)
      intro e st' ρ' a' w' hk S' hb
      cases e <;> exact hQ _ _ _ _ _ hk S' hb
theorem ex_sound (hM : P.follows .mixedOrders = true) (hN : NoCount P) (hT : TabOK P G T) (H : Heads) (d : Nat) : RecOK (R := R) P G (ex P G T H d) := (ex_sound' hM hN hT H d).1

/-- a function at values -/
def retK (P : Program) (G : Glob) (fn : Func) : Xt → St → Option Value := fun e st => match e with
  | .ext _ => none
  | _ => match resE P G fn st with
    | some (.val v) => some v
    | _ => none
def runF (P : Program) (G : Glob) (T : Tab) (H : Heads) (d : Nat) (fn : Func) (vs : List Value) : Option Value := match fn.body with
  | none => none
  | some body => ex P G T H d body { tmps := vs.map .val ++ undefs (fn.ntmps - vs.length), blks := [], saved := [] } (retK P G fn)

theorem runF_calls (hM : P.follows .mixedOrders = true) (hN : NoCount P) (hT : TabOK P G T) {H : Heads} {d : Nat} {f : FuncId} {fn : Func} (hf : P.funcs[f]? = some fn) {vs : List Value} {v : Value} {w : World}
    (hG : GOK G w) (hg : ∀ g cs, (g, cs) ∈ G → g < w.heap.size) (h : runF P G T H d fn vs = some v) : Calls P f vs.toArray w fun e w' => e = .returned v ∧ Below w.heap.size w w' := by
  unfold runF at h
  split at h <;> try (simp at h; done)
  rename_i body hb
  refine calls_of_wp hf hb (ex_sound hM hN hT H d body _ _ v h w.heap.size id _ [] w _ ⟨?_, rfl, by simp [rlss], ?_⟩ ?_)
  · simp only [Array.toList_append, Array.toList_replicate, List.size_toArray]
    exact rls_append (rls_vals vs) (undefs_rls id _)
  · exact ⟨hG, hg, by intro i b hb; simp [blk?] at hb, by intro i j b c hb; simp [blk?] at hb, Nat.le_refl _⟩
  · intro e st' ρ' a' w' hk S' hB
    have go : ∀ (h : (match resE P G fn st' with | some (.val v) => some v | _ => none : Option Value) = some v), a'.defers = [] ∧ ∃ x, (results fn a'.tmps).run P w' = .ok x w' ∧ (Ending.returned x = .returned v ∧ Below w.heap.size w w') := by
      intro h
      refine ⟨S'.df, ?_⟩
      split at h <;> try (simp at h; done)
      rename_i v' hv
      simp only [Option.some.injEq] at h
      subst h
      obtain ⟨x, hx, hxr⟩ := resE_run S' hv
      simp only [SV.rl] at hxr
      exact ⟨x, hx, by rw [hxr], hB⟩
    cases e with
    | nrm => exact go hk
    | ret => exact go hk
    | ext i => simp [retK] at hk
end
end Go.Wk
