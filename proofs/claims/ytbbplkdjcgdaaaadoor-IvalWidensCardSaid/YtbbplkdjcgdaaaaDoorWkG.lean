/- The walk by evaluation, part G: the evaluator of code, without the regions that draw. Conditions: none. -/
import Derived.Test.YtbbplkdjcgdaaaaDoorWkF
set_option autoImplicit false
set_option linter.unusedVariables false
set_option linter.unusedSimpArgs false
set_option linter.unnecessarySimpa false
namespace Go.Wk
open Go Go.RowKit

inductive Xt where
  | nrm
  | ext (id : Nat)
  | ret
def Xt.to : Xt → Exit
  | .nrm => .normal
  | .ext i => .exit i
  | .ret => .ret

inductive GD where
  | yes
  | no
  | test (t : Nat) (b : Bool) (want : Bool)
  | bad
def gd (ops : Array Oper) (tm : List SV) (o : Oper) : GD :=
  match o.guard with
  | none => .yes
  | some (j, want) => match lnth? ops.toList j with
    | none => .no
    | some oj => match oj.dst with
      | none => .no
      | some t => match nth tm t with
        | .val (.bool b) => .test t b want
        | .val (.tuple _) => .no
        | _ => .bad
def isNew (o : Oper) : Bool := match o.op with
  | .alloc _ => true
  | .box _ _ => true
  | .buildSlice _ _ _ => true
  | _ => false
def news : List Oper → Nat
  | [] => 0
  | o :: r => bif isNew o then news r + 1 else news r
def inlineOf (T : Tab) (e : Operand → SV) (o : Oper) : Option (FuncId × List SV) := match o.op with
  | .call c => match calleeOf e c with
    | some (g, as) => match T g with
      | some _ => none
      | none => some (g, as)
    | none => none
  | _ => none
def resE1 (P : Program) (G : Glob) (st : St) : ResultVar → Option SV
  | .tmp t => some (nth st.tmps t)
  | .cell a t => loadE P G st.blks t (nth st.tmps a)
def resL (P : Program) (G : Glob) (st : St) : List ResultVar → Option (List SV)
  | [] => some []
  | r :: rs => match resE1 P G st r with
    | none => none
    | some v => match resL P G st rs with
      | none => none
      | some l => some (v :: l)
def resE (P : Program) (G : Glob) (fn : Func) (st : St) : Option SV := match resL P G st fn.results.toList with
  | none => none
  | some l => match l with
    | [v] => some v
    | l => some (mkTup l)
def undefs : Nat → List SV
  | 0 => []
  | n + 1 => .val undef :: undefs n

section
variable {R : Type} (P : Program) (G : Glob) (T : Tab)
def inl (rec : Code → St → (Xt → St → Option R) → Option R) (g : FuncId) (as : List SV) (dst : Option Tmp) (st : St) (kk : St → Option R) : Option R :=
  match P.funcs[g]? with
  | none => none
  | some fn => match fn.body with
    | none => none
    | some body => rec body { tmps := as ++ undefs (fn.ntmps - as.length), blks := st.blks, saved := st.tmps :: st.saved } fun e st' => match e with
      | .ext _ => none
      | _ => match st'.saved with
        | [] => none
        | tm :: sv => match resE P G fn st' with
          | none => none
          | some v => kk { tmps := putD tm dst v, blks := bif SV.und st.blks.length v then st'.blks.take st.blks.length else st'.blks, saved := sv }
def stepRun (rec : Code → St → (Xt → St → Option R) → Option R) (o : Oper) (n : Nat) (st : St) (kk : St → Option R) : Option R :=
  match inlineOf T (ev st.tmps) o with
  | some (g, as) => inl P G rec g as o.dst st kk
  | none => match opV P G T st.blks (ev st.tmps) o with
    | some (ok, v) => bif ok then kk { st with tmps := putD st.tmps o.dst v } else none
    | none => match opN P (ev st.tmps) o with
      | some (cs, el, ln) => match stNew st o.dst n cs el ln with
        | some st' => kk st'
        | none => none
      | none => match opP P (ev st.tmps) o with
        | some (i, p, cs) => match stPut st o.dst i p cs with
          | some st' => kk st'
          | none => none
        | none => none
def skipE (o : Oper) (st : St) : St := { st with tmps := putD st.tmps o.dst (.val undef) }
def lit (st : St) (t : Nat) (b : Bool) : St := { st with tmps := setN st.tmps t (.val (.bool b)) }
def litC (st : St) (c : Operand) (b : Bool) : St := match c with
  | .tmp t => lit st t b
  | _ => st
def stepE (rec : Code → St → (Xt → St → Option R) → Option R) (ops : Array Oper) (o : Oper) (n : Nat) (st : St) (kk : St → Option R) : Option R :=
  match gd ops st.tmps o with
  | .yes => stepRun P G T rec o n st kk
  | .no => kk (skipE o st)
  | .test t b want => bif b then (bif want then stepRun P G T rec o n (lit st t true) kk else kk (skipE o (lit st t true)))
      else (bif want then kk (skipE o (lit st t false)) else stepRun P G T rec o n (lit st t false) kk)
  | .bad => none
def exOps (rec : Code → St → (Xt → St → Option R) → Option R) (ops : Array Oper) : List Oper → Nat → St → (St → Option R) → Option R
  | [], _, st, k => k st
  | o :: os, n, st, k => stepE P G T rec ops o n st fun st' => exOps rec ops os (bif isNew o then n + 1 else n) st' k
end

def nones : Nat → List (Option LB)
  | 0 => []
  | n + 1 => none :: nones n
theorem blk?_nones : ∀ (l : List (Option LB)) (n i : Nat) (b : LB), blk? (l ++ nones n) i = some b → blk? l i = some b
  | [], 0, i, b, h => by simpa [nones] using h
  | [], n + 1, 0, b, h => by simp [nones, blk?] at h
  | [], n + 1, i + 1, b, h => by
    simp only [nones, List.nil_append, blk?] at h
    have := blk?_nones [] n i b (by simpa using h)
    simp [blk?] at this
  | x :: l, n, 0, b, h => by simpa [blk?] using h
  | x :: l, n, i + 1, b, h => by simp only [List.cons_append, blk?] at h ⊢; exact blk?_nones l n i b h
theorem blk?_take : ∀ (l : List (Option LB)) (n i : Nat) (b : LB), blk? (l.take n) i = some b → blk? l i = some b
  | [], n, i, b, h => by simp [blk?] at h
  | x :: l, 0, i, b, h => by simp [blk?] at h
  | x :: l, n + 1, 0, b, h => by simpa [blk?] using h
  | x :: l, n + 1, i + 1, b, h => by simp only [List.take_succ_cons, blk?] at h ⊢; exact blk?_take l n i b h

/-- the state at a loop's head: what is not kept is forgotten -/
def memN (n : Nat) : List Nat → Bool
  | [] => false
  | x :: r => Nat.beq x n || memN n r
def keepT (l : List Nat) : Nat → List SV → List SV
  | _, [] => []
  | i, x :: r => (bif memN i l then x else .unk) :: keepT l (i + 1) r
/-- a loop that is known: from a state at its head, on -/
structure LSum where
  run : {R : Type} → St → (Xt → St → Option R) → Option R
structure Heads where
  heads : List (Nat × List Nat × Nat) := []
  merge : Bool := true
  sums : List (Nat × LSum) := []
def lookS : List (Nat × LSum) → Nat → Option LSum
  | [], _ => none
  | (k, v) :: r, n => bif Nat.beq k n then some v else lookS r n
def lookH : List (Nat × List Nat × Nat) → Nat → Option (List Nat × Nat)
  | [], _ => none
  | (k, v) :: r, n => bif Nat.beq k n then some v else lookH r n
def hd : Code → Nat
  | .region id _ _ => id
  | .seq a _ => hd a
  | .block _ b => hd b
  | .loop b => hd b
  | .scope b => hd b
  | _ => 1000000
def headT (H : Heads) (body : Code) (st : St) : St := match st.saved with
  | [] => match lookH H.heads (hd body) with
    | some (l, n) => { tmps := keepT l 0 st.tmps, blks := st.blks.take n, saved := [] }
    | none => st
  | _ :: _ => st

/-! soundness -/
def Good (P : Program) (G : Glob) (c : Code) (st : St) (H : Xt → St → Prop) : Prop :=
  ∀ (base : Nat) (ρ : Nat → Nat) (a : Act) (sv : List (List Value)) (w : World) (Q : Exit → Act → World → Prop), SRel G base ρ st a sv w →
    (∀ e st' ρ' a' w', H e st' → SRel G base ρ' st' a' sv w' → Below base w w' → Q e.to a' w') → c.wp P Q a w

section
variable {P : Program} {G : Glob} {T : Tab} {base : Nat} {R : Type}

theorem setN_nth : ∀ (l : List SV) (t : Nat) (v : SV), nth l t = v → (∀ w, v ≠ .val w ∨ w ≠ undef) → setN l t v = l
  | [], _, _, _, _ => rfl
  | x :: r, 0, v, h, _ => by simp only [nth] at h; subst h; rfl
  | x :: r, t + 1, v, h, hn => by simp only [nth] at h; simp only [setN, setN_nth r t v h hn]
theorem lit_same (st : St) (t : Nat) (b : Bool) (h : nth st.tmps t = .val (.bool b)) : lit st t b = st := by
  unfold lit
  rw [setN_nth st.tmps t _ h (fun w => by by_cases e : w = .bool b; · right; subst e; simp [undef]
                                          · left; intro h; exact e (by cases h; rfl))]

theorem gd_yes {ρ : Nat → Nat} {ops : Array Oper} {tm : List SV} {o : Oper} {a : Act} (h : gd ops tm o = .yes) : Region.wanted o (yielded ops a.tmps) = true := by
  unfold gd at h
  split at h
  · rename_i hg; simp [Region.wanted, hg]
  · repeat (split at h <;> try (simp at h; done))
theorem gd_no {ρ : Nat → Nat} {ops : Array Oper} {tm : List SV} {o : Oper} {a : Act} (ht : SV.rls ρ tm a.tmps.toList) (h : gd ops tm o = .no) : Region.wanted o (yielded ops a.tmps) = false := by
  unfold gd at h
  split at h
  · simp at h
  · rename_i j want hg
    rw [lnth?_eq] at h
    have hj : ops.toList[j]? = ops[j]? := by simp
    rw [hj] at h
    split at h
    · rename_i ho; simp [Region.wanted, hg, yielded, ho]
    · rename_i oj ho
      split at h
      · rename_i hd; simp [Region.wanted, hg, yielded, ho, hd]
      · rename_i t hd
        split at h <;> try (simp at h; done)
        rename_i vs hv
        have := rls_nth t ht
        rw [hv] at this
        simp only [SV.rl] at this
        have e : a.tmps.toList.getD t undef = (a.tmps[t]?).getD undef := by simp [List.getD_eq_getElem?_getD]
        rw [e] at this
        cases hq : a.tmps[t]? with
        | none => simp [Region.wanted, hg, yielded, ho, hd, hq]
        | some x => rw [hq] at this; simp at this; subst this; simp [Region.wanted, hg, yielded, ho, hd, hq]
theorem gd_test {ρ : Nat → Nat} {ops : Array Oper} {tm : List SV} {o : Oper} {a : Act} {t : Nat} {b want : Bool} (ht : SV.rls ρ tm a.tmps.toList) (h : gd ops tm o = .test t b want) :
    nth tm t = .val (.bool b) ∧ Region.wanted o (yielded ops a.tmps) = (b == want) := by
  unfold gd at h
  split at h
  · simp at h
  · rename_i j want' hg
    rw [lnth?_eq] at h
    have hj : ops.toList[j]? = ops[j]? := by simp
    rw [hj] at h
    split at h
    · simp at h
    · rename_i oj ho
      split at h
      · simp at h
      · rename_i t' hd
        split at h <;> try (simp at h; done)
        rename_i b' hv
        simp only [GD.test.injEq] at h
        obtain ⟨rfl, rfl, rfl⟩ := h
        refine ⟨hv, ?_⟩
        have := rls_nth t' ht
        rw [hv] at this
        simp only [SV.rl] at this
        have e : a.tmps.toList.getD t' undef = (a.tmps[t']?).getD undef := by simp [List.getD_eq_getElem?_getD]
        rw [e] at this
        cases hq : a.tmps[t']? with
        | none => rw [hq] at this; simp [undef] at this
        | some x => rw [hq] at this; simp at this; subst this; simp [Region.wanted, hg, yielded, ho, hd, hq]

theorem skipE_rel {ρ : Nat → Nat} {st : St} {a : Act} {sv : List (List Value)} {w : World} (S : SRel G base ρ st a sv w) (o : Oper) : SRel G base ρ (skipE o st) (a.put o.dst undef) sv w :=
  S.val o.dst (by simp [SV.rl]) (Below.refl _ _)

theorem SRel.tidy {ρ : Nat → Nat} {st : St} {a : Act} {sv : List (List Value)} {w : World} (S : SRel G base ρ st a sv w) {bl : List (Option LB)} (h : ∀ i b, blk? bl i = some b → blk? st.blks i = some b) :
    SRel G base ρ { st with blks := bl } a sv w := ⟨S.tm, S.df, S.svd, S.M.drop h⟩

theorem resL_run {ρ : Nat → Nat} {st : St} {a : Act} {sv : List (List Value)} {w : World} (S : SRel G base ρ st a sv w) : ∀ {rs : List ResultVar} {l : List SV}, resL P G st rs = some l →
    ∃ xs, (rs.mapM (m := Sem) fun | .tmp t => pure (a.tmps.getD t undef) | .cell p t => do loadVar t (← asAddr (a.tmps.getD p undef))).run P w = .ok xs w ∧ SV.rls ρ l xs
  | [], l, h => by simp only [resL, Option.some.injEq] at h; subst h; exact ⟨[], by simp, by simp [SV.rls]⟩
  | r :: rs, l, h => by
    simp only [resL] at h
    split at h <;> try (simp at h; done)
    rename_i v hv
    split at h <;> try (simp at h; done)
    rename_i l' hl
    simp only [Option.some.injEq] at h
    subst h
    obtain ⟨xs, hx, hxr⟩ := resL_run S hl
    cases r with
    | tmp t =>
      simp only [resE1, Option.some.injEq] at hv
      subst hv
      have h1 := ev_rl S.tm (.tmp t)
      refine ⟨a.tmps.getD t undef :: xs, ?_, by simp only [SV.rls]; exact ⟨h1, hxr⟩⟩
      simp only [List.mapM_cons, Sem.run_bind, Sem.run_pure, Result.andThen_ok, hx]
    | cell p t =>
      simp only [resE1] at hv
      have h1 := ev_rl S.tm (.tmp p)
      obtain ⟨ad, y, e1, e2, e3⟩ := loadE_run S.M hv h1
      refine ⟨y :: xs, ?_, by simp only [SV.rls]; exact ⟨e3, hxr⟩⟩
      have e1' : a.tmps.getD p undef = .pointer (some ad) := e1
      have e4 : (asAddr (a.tmps.getD p undef)).run P w = .ok ad w := by rw [e1']; rfl
      simp only [List.mapM_cons, Sem.run_bind, Sem.run_pure, Result.andThen_ok, hx, e4, e2]

theorem resE_run {ρ : Nat → Nat} {st : St} {a : Act} {sv : List (List Value)} {w : World} {fn : Func} {v : SV} (S : SRel G base ρ st a sv w) (h : resE P G fn st = some v) :
    ∃ x, (results fn a.tmps).run P w = .ok x w ∧ SV.rl ρ v x := by
  unfold resE at h
  split at h <;> try (simp at h; done)
  rename_i l hl
  obtain ⟨xs, hx, hxr⟩ := resL_run S hl
  have hm : (fn.results.mapM (m := Sem) fun | .tmp t => pure (a.tmps.getD t undef) | .cell p t => do loadVar t (← asAddr (a.tmps.getD p undef))).run P w = .ok xs.toArray w := by
    rw [← Array.toArray_toList (xs := fn.results), List.mapM_toArray, Sem.run_map, hx]; rfl
  split at h
  · simp only [Option.some.injEq] at h; subst h
    match xs, hxr, hm with
    | [x], hxr, hm =>
      simp only [SV.rls] at hxr
      refine ⟨x, ?_, hxr.1⟩
      unfold results
      rw [Sem.run_bind]
      exact (congrArg (fun r => Result.andThen r _) hm).trans rfl
    | [], hxr, _ => simp [SV.rls] at hxr
    | _ :: _ :: _, hxr, _ => simp [SV.rls] at hxr
  · rename_i hne
    simp only [Option.some.injEq] at h; subst h
    have hlen := rls_len hxr
    have h1 : xs.toArray.size ≠ 1 := by
      intro e
      simp at e
      rw [e] at hlen
      match l, hlen with
      | [v], _ => exact hne v rfl
    refine ⟨.tuple xs.toArray, ?_, mkTup_rl hxr⟩
    unfold results
    rw [Sem.run_bind]
    refine (congrArg (fun r => Result.andThen r _) hm).trans ?_
    simp only [Result.andThen_ok, dif_neg h1]
    rfl

def SoundL (P : Program) (G : Glob) (B : Code) (F : LSum) : Prop := ∀ (R : Type) (st : St) (k : Xt → St → Option R) (r : R), F.run st k = some r → Good P G (.loop B) st fun e s => k e s = some r
/-- each loop of a code that is listed as known is known rightly -/
def LoopsOK (P : Program) (G : Glob) (S : List (Nat × LSum)) : Code → Prop
  | .seq a b => LoopsOK P G S a ∧ LoopsOK P G S b
  | .cond _ a b => LoopsOK P G S a ∧ LoopsOK P G S b
  | .block _ b => LoopsOK P G S b
  | .scope b => LoopsOK P G S b
  | .loop b => (∀ F, lookS S (hd b) = some F → SoundL P G b F) ∧ LoopsOK P G S b
  | _ => True
def RecOK (P : Program) (G : Glob) (S : List (Nat × LSum)) (rec : Code → St → (Xt → St → Option R) → Option R) : Prop :=
  ∀ c st k r, (st.saved = [] → LoopsOK P G S c) → rec c st k = some r → Good P G c st fun e st' => k e st' = some r

theorem undefs_rls (ρ : Nat → Nat) : ∀ n, SV.rls ρ (undefs n) (List.replicate n undef)
  | 0 => by simp [undefs, SV.rls]
  | n + 1 => by simp only [undefs, List.replicate_succ, SV.rls, SV.rl]; exact ⟨trivial, undefs_rls ρ n⟩

/-- no function of the program is the one that is answered by the model itself -/
def NoCount (P : Program) : Prop := ∀ (g : Nat) (fn : Func), P.funcs[g]? = some fn → (fn.name == "runtime.NumGoroutine") = false

theorem inl_wp {rec : Code → St → (Xt → St → Option R) → Option R} {S0 : List (Nat × LSum)} (hN : NoCount P) (hr : RecOK P G S0 rec) {ρ : Nat → Nat} {st : St} {a : Act} {sv : List (List Value)} {w : World} (S : SRel G base ρ st a sv w)
    {o : Oper} {g : FuncId} {as : List SV} {kk : St → Option R} {r : R} (hi : inlineOf T (ev st.tmps) o = some (g, as)) (h : inl P G rec g as o.dst st kk = some r) {K : Act → World → Prop} {Q : Exit → Act → World → Prop}
    (hK : ∀ st' ρ' a' w', kk st' = some r → SRel G base ρ' st' a' sv w' → Below base w w' → K a' w') : o.wp P a w K Q := by
  unfold inl at h
  split at h <;> try (simp at h; done)
  rename_i fn hfn
  split at h <;> try (simp at h; done)
  rename_i body hb
  unfold inlineOf at hi
  split at hi <;> try (simp at hi; done)
  rename_i c hop
  split at hi <;> try (simp at hi; done)
  rename_i g' as' hc
  split at hi <;> try (simp at hi; done)
  simp only [Option.some.injEq, Prod.mk.injEq] at hi
  obtain ⟨rfl, rfl⟩ := hi
  obtain ⟨xs, hxs, hrun⟩ := calleeOf_rl (P := P) (fun x => ev_rl S.tm x) hc o.type ⟨fn, hfn, hN _ _ hfn, by simp [hb]⟩ w
  unfold Oper.wp
  have hrun' : (execOp a.eval o).run P w = .ok (.enter g' xs.toArray) w := by rw [← hrun]; unfold execOp; rw [hop]
  rw [hrun']
  simp only [Oper.upon_enter]
  have hG := hr _ _ _ _ (fun h0 => by simp at h0) h
  refine calls_of_wp hfn hb (hG base ρ _ (a.tmps.toList :: sv) w _ ⟨?_, rfl, ?_, S.M⟩ ?_)
  · have hl := rls_len hxs
    simp only [Array.toList_append, Array.toList_replicate]
    rw [hl]
    simpa using rls_append hxs (undefs_rls ρ (fn.ntmps - xs.length))
  · simp only [rlss]; exact ⟨S.tm, S.svd⟩
  · intro e st' ρ' a' w' hk S' hB
    have go : ∀ (h : (match st'.saved with
          | [] => none
          | tm :: sv => match resE P G fn st' with
            | none => none
            | some v => kk { tmps := putD tm o.dst v, blks := bif SV.und st.blks.length v then st'.blks.take st.blks.length else st'.blks, saved := sv } : Option R) = some r),
        a'.defers = [] ∧ ∃ v, (results fn a'.tmps).run P w' = .ok v w' ∧ K (a.put o.dst v) w' := by
      intro h
      refine ⟨S'.df, ?_⟩
      have hs := S'.svd
      split at h <;> try (simp at h; done)
      rename_i tm sv0 hsv
      rw [hsv] at hs
      simp only [rlss] at hs
      split at h <;> try (simp at h; done)
      rename_i v hv
      obtain ⟨x, hx, hxr⟩ := resE_run S' hv
      refine ⟨x, hx, hK _ ρ' _ _ h ⟨put_rl o.dst hs.1 hxr, by rw [put_df]; exact S.df, hs.2, ?_⟩ hB⟩
      simp only
      cases SV.und st.blks.length v with
      | true => exact S'.M.drop (fun i b hb => blk?_take _ _ i b hb)
      | false => exact S'.M
    cases e with
    | nrm => exact go hk
    | ret => exact go hk
    | ext i => simp at hk

theorem stepRun_wp {rec : Code → St → (Xt → St → Option R) → Option R} {S0 : List (Nat × LSum)} (hN : NoCount P) (hT : TabOK P G T) (hr : RecOK P G S0 rec) {ρ : Nat → Nat} {st : St} {a : Act} {sv : List (List Value)} {w : World} (S : SRel G base ρ st a sv w)
    {o : Oper} {n : Nat} {kk : St → Option R} {r : R} (h : stepRun P G T rec o n st kk = some r) {K : Act → World → Prop} {Q : Exit → Act → World → Prop}
    (hK : ∀ st' ρ' a' w', kk st' = some r → SRel G base ρ' st' a' sv w' → Below base w w' → K a' w') : o.wp P a w K Q := by
  unfold stepRun at h
  split at h
  · rename_i g as hi
    exact inl_wp hN hr S hi h hK
  · split at h
    · rename_i ok v hv
      cases ok with
      | false => simp at h
      | true =>
        simp only [cond_true] at h
        exact opV_wp hT (fun x => ev_rl S.tm x) S.M hv fun x w' hx hb => hK _ ρ _ _ h (S.val o.dst hx hb) (below_base hb S.M.sz)
    · split at h
      · rename_i cs el ln hn
        split at h <;> try (simp at h; done)
        rename_i st' hst
        exact opN_wp S hn hst fun ρ' a' w' S' hb => hK _ ρ' _ _ h S' hb
      · split at h <;> try (simp at h; done)
        rename_i i p cs hp
        split at h <;> try (simp at h; done)
        rename_i st' hst
        exact opP_wp S hp hst fun a' w' S' hb => hK _ ρ _ _ h S' hb

theorem exOps_wp {rec : Code → St → (Xt → St → Option R) → Option R} {S0 : List (Nat × LSum)} (hN : NoCount P) (hT : TabOK P G T) (hr : RecOK P G S0 rec) {ops : Array Oper} {k : St → Option R} {r : R} {sv : List (List Value)} {Q : Exit → Act → World → Prop} :
    ∀ (os : List Oper) (n : Nat) (st : St) (ρ : Nat → Nat) (a : Act) (w : World), SRel G base ρ st a sv w → exOps P G T rec ops os n st k = some r →
    (∀ st' ρ' a' w', k st' = some r → SRel G base ρ' st' a' sv w' → Below base w w' → Q .normal a' w') → wpList P ops Q os a w
  | [], n, st, ρ, a, w, S, h, hQ => hQ _ ρ _ _ h S (Below.refl _ _)
  | o :: os, n, st, ρ, a, w, S, h, hQ => by
    simp only [exOps] at h
    have next : ∀ st' ρ' a' w', exOps P G T rec ops os (bif isNew o then n + 1 else n) st' k = some r → SRel G base ρ' st' a' sv w' → Below base w w' → wpList P ops Q os a' w' :=
      fun st' ρ' a' w' hk S' hb => exOps_wp hN hT hr os _ st' ρ' a' w' S' hk fun st'' ρ'' a'' w'' h1 h2 h3 => hQ st'' ρ'' a'' w'' h1 h2 (hb.trans h3)
    simp only [wpList]
    unfold stepE at h
    split at h
    · rename_i hg
      rw [if_pos (gd_yes (ρ := ρ) hg)]
      exact .inl (stepRun_wp hN hT hr S h next)
    · rename_i hg
      have := gd_no S.tm hg
      rw [this]
      simp only [Bool.false_eq_true, if_false]
      exact next _ ρ _ _ h (skipE_rel S o) (Below.refl _ _)
    · rename_i t b want hg
      obtain ⟨hv, hw⟩ := gd_test S.tm hg
      rw [hw]
      cases b <;> cases want <;> simp only [cond_true, cond_false, lit_same st t _ hv] at h <;> simp
      · exact .inl (stepRun_wp hN hT hr S h next)
      · exact next _ ρ _ _ h (skipE_rel S o) (Below.refl _ _)
      · exact next _ ρ _ _ h (skipE_rel S o) (Below.refl _ _)
      · exact .inl (stepRun_wp hN hT hr S h next)
    · simp at h

theorem keepT_rls {ρ : Nat → Nat} (l : List Nat) : ∀ (i : Nat) {tm : List SV} {xs : List Value}, SV.rls ρ tm xs → SV.rls ρ (keepT l i tm) xs
  | _, [], [], h => by simp [keepT, SV.rls]
  | i, s :: tm, x :: xs, h => by
    simp only [SV.rls] at h
    simp only [keepT, SV.rls]
    refine ⟨?_, keepT_rls l (i + 1) h.2⟩
    cases memN i l with
    | true => exact h.1
    | false => simp [SV.rl]
  | _, [], _ :: _, h => by simp [SV.rls] at h
  | _, _ :: _, [], h => by simp [SV.rls] at h
theorem headT_rel {H : Heads} {body : Code} {ρ : Nat → Nat} {st : St} {a : Act} {sv : List (List Value)} {w : World} (S : SRel G base ρ st a sv w) : SRel G base ρ (headT H body st) a sv w := by
  unfold headT
  split
  · rename_i hs
    split
    · rename_i l n _
      have := S.svd
      rw [hs] at this
      exact ⟨keepT_rls l 0 S.tm, S.df, this, S.M.drop (fun i b hb => blk?_take _ _ i b hb)⟩
    · exact S
  · exact S

end
end Go.Wk
