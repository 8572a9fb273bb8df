/- The walk by evaluation, part H: what the evaluator answers, the model does. Conditions: none. -/
import Derived.Test.YtbbplkdjcgdaaaaDoorWkD5
set_option autoImplicit false
set_option linter.unusedVariables false
set_option linter.unusedSimpArgs false
set_option linter.unnecessarySimpa false
namespace Go.Wk
open Go Go.RowKit

def ex {R : Type} (P : Program) (G : Glob) (T : Tab) (H : Heads) : Nat → Code → St → (Xt → St → Option R) → Option R
  | 0, _, _, _ => none
  | d + 1, c, st, k => match c with
    | .skip => k .nrm st
    | .label _ => k .nrm st
    | .region _ ops draw => bif draw then exD P G T ops st (k .nrm)
        else exOps P G T (ex P G T H d) ops ops.toList st.blks.length { st with blks := st.blks ++ nones (news ops.toList) } (k .nrm)
    | .seq a b => ex P G T H d a st fun e st' => match e with
        | .nrm => ex P G T H d b st' k
        | e => k e st'
    | .cond c x y => match (bif H.merge && (okC x && okC y) then exP P G T (.cond c x y) st else none) with
        | some st' => k .nrm st'
        | none => match ev st.tmps c with
          | .val (.bool b) => bif b then ex P G T H d x (litC st c true) k else ex P G T H d y (litC st c false) k
          | _ => none
    | .block id body => ex P G T H d body st fun e st' => match e with
        | .ext i => bif Nat.beq i id then k .nrm st' else k e st'
        | e => k e st'
    | .loop body => match (match st.saved with | [] => lookS H.sums (hd body) | _ :: _ => none) with
        | some F => F.run (headT H body st) k
        | none => ex P G T H d body (headT H body st) fun e st' => match e with
          | .nrm => ex P G T H d (.loop body) (headT H body st') k
          | e => k e st'
    | .exit id => k (.ext id) st
    | .scope body => ex P G T H d body st k
    | .ret => k .ret st
    | _ => none


section
variable {P : Program} {G : Glob} {T : Tab} {R : Type}

theorem Good.mono {c : Code} {st : St} {H H' : Xt → St → Prop} (h : Good P G c st H) (hh : ∀ e st', H e st' → H' e st') : Good P G c st H' :=
  fun base ρ a sv w Q S hQ => h base ρ a sv w Q S fun e st' ρ' a' w' h1 => hQ e st' ρ' a' w' (hh _ _ h1)

theorem saved_nil {base : Nat} {ρ ρ' : Nat → Nat} {st st' : St} {a a' : Act} {sv : List (List Value)} {w w' : World} (S : SRel G base ρ st a sv w) (S' : SRel G base ρ' st' a' sv w') (h : st'.saved = []) : st.saved = [] := by
  have h1 := S'.svd
  rw [h] at h1
  have h2 := S.svd
  cases sv with
  | nil => cases hs : st.saved with
    | nil => rfl
    | cons x r => rw [hs] at h2; simp [rlss] at h2
  | cons x r => simp [rlss] at h1

theorem headT_saved (H : Heads) (body : Code) (st : St) : (headT H body st).saved = st.saved := by
  unfold headT
  split
  · rename_i hs
    split
    · exact hs.symm
    · rfl
  · rfl
theorem ex_sound' (hM : P.follows .mixedOrders = true) (hN : NoCount P) (hT : TabOK P G T) (H : Heads) : ∀ d, RecOK (R := R) P G H.sums (ex P G T H d) ∧
    ∀ (body : Code) (st : St) (k : Xt → St → Option R) (r : R), (st.saved = [] → lookS H.sums (hd body) = none) → (st.saved = [] → LoopsOK P G H.sums body) → ex P G T H d (.loop body) st k = some r →
      ∀ (base : Nat) (ρ : Nat → Nat) (a : Act) (sv : List (List Value)) (w : World) (Q : Exit → Act → World → Prop), SRel G base ρ st a sv w →
      (∀ e st' ρ' a' w', k e st' = some r → SRel G base ρ' st' a' sv w' → Below base w w' → Q e.to a' w') → Code.rounds P body Q d a w
  | 0 => ⟨by intro c st k r _ h; simp [ex] at h, by intro body st k r _ _ h; simp [ex] at h⟩
  | d + 1 => by
    obtain ⟨ih, ihl⟩ := ex_sound' hM hN hT H d
    have lp : ∀ (body : Code) (st : St) (k : Xt → St → Option R) (r : R), (st.saved = [] → lookS H.sums (hd body) = none) → (st.saved = [] → LoopsOK P G H.sums body) → ex P G T H (d + 1) (.loop body) st k = some r →
      ∀ (base : Nat) (ρ : Nat → Nat) (a : Act) (sv : List (List Value)) (w : World) (Q : Exit → Act → World → Prop), SRel G base ρ st a sv w →
      (∀ e st' ρ' a' w', k e st' = some r → SRel G base ρ' st' a' sv w' → Below base w w' → Q e.to a' w') → Code.rounds P body Q (d + 1) a w := by
      intro body st k r hno hl h base ρ a sv w Q S hQ
      have hnone : (match st.saved with | [] => lookS H.sums (hd body) | _ :: _ => none) = none := by
        cases hs : st.saved with
        | nil => exact hno hs
        | cons x y => rfl
      simp only [ex] at h
      rw [hnone] at h
      simp only at h
      rw [rounds_succ]
      have Sh : SRel G base ρ (headT H body st) a sv w := headT_rel S
      refine ih body _ _ r (fun h0 => hl (by rw [headT_saved] at h0; exact h0)) h base ρ a sv w _ Sh ?_
      intro e st' ρ' a' w' hk S' hb
      have hs : st'.saved = [] → st.saved = [] := fun h0 => saved_nil S S' h0
      cases e with
      | nrm =>
        refine ihl body (headT H body st') k r (fun h0 => hno (hs (by rw [headT_saved] at h0; exact h0))) (fun h0 => hl (hs (by rw [headT_saved] at h0; exact h0))) hk base ρ' a' sv w' Q (headT_rel S') fun e2 st2 ρ2 a2 w2 h2 S2 hb2 => hQ e2 st2 ρ2 a2 w2 h2 S2 (hb.trans hb2)
      | ext i => exact hQ _ _ _ _ _ hk S' hb
      | ret => exact hQ _ _ _ _ _ hk S' hb
    refine ⟨?_, lp⟩
    intro c st k r hL h base ρ a sv w Q S hQ
    by_cases hlp : ∃ body, c = .loop body
    · obtain ⟨body, rfl⟩ := hlp
      cases hF : (match st.saved with | [] => lookS H.sums (hd body) | _ :: _ => none) with
      | some F =>
        have hs : st.saved = [] := by
          cases hs : st.saved with
          | nil => rfl
          | cons x y => rw [hs] at hF; simp at hF
        rw [hs] at hF
        simp only at hF
        simp only [ex, hs, hF] at h
        exact (hL hs).1 F hF R _ k r h base ρ a sv w Q (headT_rel S) hQ
      | none =>
        refine wp_loop_rounds (d + 1) (lp body st k r (fun hs => ?_) (fun hs => (hL hs).2) h base ρ a sv w Q S hQ)
        rw [hs] at hF
        exact hF
    cases c <;> simp only [ex] at h <;> try (simp at h; done)
    case skip => exact wp_skip (hQ _ _ _ _ _ h S (Below.refl _ _))
    case label l => exact wp_label (hQ _ _ _ _ _ h S (Below.refl _ _))
    case exit id => exact wp_exit (hQ (.ext id) _ _ _ _ h S (Below.refl _ _))
    case ret => exact wp_ret (hQ .ret _ _ _ _ h S (Below.refl _ _))
    case region id ops draw =>
      cases draw with
      | true =>
        simp only [cond_true] at h
        exact exD_wp hM hT h base ρ a sv w Q S fun e st' ρ' a' w' ⟨he, hk⟩ => by subst he; exact hQ _ _ _ _ _ hk
      | false =>
        simp only [cond_false] at h
        refine wp_region_list (exOps_wp hN hT ih ops.toList _ _ ρ a w ?_ h fun st' ρ' a' w' hk S' hb => hQ .nrm _ _ _ _ hk S' hb)
        exact S.tidy fun i b hb => blk?_nones _ _ i b hb
    case seq x y =>
      refine wp_seq (ih x st _ r (fun h0 => (hL h0).1) h base ρ a sv w _ S ?_)
      intro e st' ρ' a' w' hk S' hb
      cases e with
      | nrm => exact ih y st' k r (fun h0 => (hL (saved_nil S S' h0)).2) hk base ρ' a' sv w' Q S' fun e2 st2 ρ2 a2 w2 h2 S2 hb2 => hQ e2 st2 ρ2 a2 w2 h2 S2 (hb.trans hb2)
      | ext i => exact hQ _ _ _ _ _ hk S' hb
      | ret => exact hQ _ _ _ _ _ hk S' hb
    case cond c x y =>
      split at h
      · rename_i st' he
        obtain ⟨_, he⟩ := bif_t he
        exact (exP_ok hM hN hT (.cond c x y) st st' he) base ρ a sv w Q S fun ρ' a' w' S' hb => hQ .nrm st' ρ' a' w' h S' hb
      split at h <;> try (simp at h; done)
      rename_i b hc
      have hr := ev_rl S.tm c
      rw [hc] at hr
      simp only [SV.rl] at hr
      have hl : litC st c b = st := by
        cases c with
        | tmp t => exact lit_same st t b hc
        | _ => rfl
      refine wp_cond hr ?_
      cases b with
      | true =>
        simp only [cond_true] at h
        rw [hl] at h
        exact ih x st k r (fun h0 => (hL h0).1) h base ρ a sv w Q S hQ
      | false =>
        simp only [cond_false] at h
        rw [hl] at h
        exact ih y st k r (fun h0 => (hL h0).2) h base ρ a sv w Q S hQ
    case block id body =>
      refine wp_block (ih body st _ r hL h base ρ a sv w _ S ?_)
      intro e st' ρ' a' w' hk S' hb
      cases e with
      | nrm => exact hQ _ _ _ _ _ hk S' hb
      | ret => exact hQ _ _ _ _ _ hk S' hb
      | ext i =>
        cases hi : Nat.beq i id with
        | true =>
          simp only [hi, cond_true] at hk
          have := Nat.eq_of_beq_eq_true hi
          subst this
          simp only [Xt.to, Exit.inBlock, if_true]
          exact hQ .nrm _ _ _ _ hk S' hb
        | false =>
          simp only [hi, cond_false] at hk
          have : i ≠ id := fun e => by subst e; simp at hi
          simp only [Xt.to, Exit.inBlock, this, if_false]
          exact hQ (.ext i) _ _ _ _ hk S' hb
    case loop body => exact absurd ⟨body, rfl⟩ hlp
    case scope body =>
      refine wp_scope_straight (ih body st k r hL h base ρ a sv w _ S ?_)
      intro e st' ρ' a' w' hk S' hb
      cases e <;> exact hQ _ _ _ _ _ hk S' hb
theorem ex_sound (hM : P.follows .mixedOrders = true) (hN : NoCount P) (hT : TabOK P G T) (H : Heads) (d : Nat) : RecOK (R := R) P G H.sums (ex P G T H d) := (ex_sound' hM hN hT H d).1

theorem LoopsOK_nil : ∀ c : Code, LoopsOK P G [] c
  | .seq a b => ⟨LoopsOK_nil a, LoopsOK_nil b⟩
  | .cond _ a b => ⟨LoopsOK_nil a, LoopsOK_nil b⟩
  | .block _ b => LoopsOK_nil b
  | .scope b => LoopsOK_nil b
  | .loop b => ⟨fun F h => by simp [lookS] at h, LoopsOK_nil b⟩
  | .skip => trivial
  | .region _ _ _ => trivial
  | .rangeFunc _ _ _ _ => trivial
  | .exit _ => trivial
  | .label _ => trivial
  | .goto _ => trivial
  | .ret => trivial
  | .refuse _ => trivial

/-- a function at values -/
def retK (P : Program) (G : Glob) (fn : Func) : Xt → St → Option Value := fun e st => match e with
  | .ext _ => none
  | _ => match resE P G fn st with
    | some (.val v) => some v
    | _ => none
def runF (P : Program) (G : Glob) (T : Tab) (H : Heads) (d : Nat) (fn : Func) (vs : List Value) : Option Value := match fn.body with
  | none => none
  | some body => ex P G T H d body { tmps := vs.map .val ++ undefs (fn.ntmps - vs.length), blks := [], saved := [] } (retK P G fn)

theorem runF_calls' (hM : P.follows .mixedOrders = true) (hN : NoCount P) (hT : TabOK P G T) {H : Heads} {d : Nat} {f : FuncId} {fn : Func} (hL : ∀ c, fn.body = some c → LoopsOK P G H.sums c) (hf : P.funcs[f]? = some fn) {vs : List Value} {v : Value} {w : World}
    (hG : GOK G w) (hg : ∀ g cs, (g, cs) ∈ G → g < w.heap.size) (h : runF P G T H d fn vs = some v) : Calls P f vs.toArray w fun e w' => e = .returned v ∧ Below w.heap.size w w' := by
  unfold runF at h
  split at h <;> try (simp at h; done)
  rename_i body hb
  refine calls_of_wp hf hb (ex_sound hM hN hT H d body _ _ v (fun _ => hL _ hb) h w.heap.size id _ [] w _ ⟨?_, rfl, by simp [rlss], ?_⟩ ?_)
  · simp only [Array.toList_append, Array.toList_replicate, List.size_toArray]
    exact rls_append (rls_vals vs) (undefs_rls id _)
  · exact ⟨hG, hg, by intro i b hb; simp [blk?] at hb, by intro i j b c hb; simp [blk?] at hb, Nat.le_refl _⟩
  · intro e st' ρ' a' w' hk S' hB
    have go : ∀ (h : (match resE P G fn st' with | some (.val v) => some v | _ => none : Option Value) = some v), a'.defers = [] ∧ ∃ x, (results fn a'.tmps).run P w' = .ok x w' ∧ (Ending.returned x = .returned v ∧ Below w.heap.size w w') := by
      intro h
      refine ⟨S'.df, ?_⟩
      split at h <;> try (simp at h; done)
      rename_i v' hv
      simp only [Option.some.injEq] at h
      subst h
      obtain ⟨x, hx, hxr⟩ := resE_run S' hv
      simp only [SV.rl] at hxr
      exact ⟨x, hx, by rw [hxr], hB⟩
    cases e with
    | nrm => exact go hk
    | ret => exact go hk
    | ext i => simp [retK] at hk
theorem runF_calls (hM : P.follows .mixedOrders = true) (hN : NoCount P) (hT : TabOK P G T) {m : Bool} {d : Nat} {f : FuncId} {fn : Func} (hf : P.funcs[f]? = some fn) {vs : List Value} {v : Value} {w : World}
    (hG : GOK G w) (hg : ∀ g cs, (g, cs) ∈ G → g < w.heap.size) (h : runF P G T { merge := m } d fn vs = some v) : Calls P f vs.toArray w fun e w' => e = .returned v ∧ Below w.heap.size w w' :=
  runF_calls' hM hN hT (fun c _ => LoopsOK_nil c) hf hG hg h
end
end Go.Wk
