/- The walk by evaluation, part E: one operation, whole. Conditions: none. -/
import Derived.Test.YtbbplkdjcgdaaaaDoorWkD
set_option autoImplicit false
set_option linter.unusedVariables false
set_option linter.unusedSimpArgs false
set_option linter.unnecessarySimpa false
namespace Go.Wk
open Go Go.RowKit

def nilE : SV → Option SV
  | .ptr i o => some (.ptr i o)
  | .glob g o => some (.glob g o)
  | .fn (.func f) p c => some (.fn (.func f) p c)
  | .val (.func (.func f) p c) => some (.val (.func (.func f) p c))
  | .val (.pointer (some a)) => some (.val (.pointer (some a)))
  | _ => none
def ifcE (P : Program) (t : TypeId) (s : SV) : Option SV := match P.underlying t with
  | none => none
  | some (.interface _) => none
  | some _ => match s with
    | .val v => some (.val (.iface t v))
    | s => some (.ifc t s)
def pickE (c x y : SV) : Option SV := match c with
  | .val (.bool b) => match x with
    | .val (.bool p) => match y with
      | .val (.bool q) => some (.val (.bool (bif b then p else q)))
      | _ => bif b then some x else some y
    | _ => bif b then some x else some y
  | _ => none
def lenE (P : Program) (t : TypeId) (x : SV) : Option Value := match P.underlying t with
  | some .string => match x with
    | .val (.string s) => some (.int .i64 s.size)
    | _ => none
  | some (.slice _) => match x with
    | .slc _ _ n => some (.int .i64 n)
    | .val (.slice _ n _) => some (.int .i64 n)
    | _ => none
  | some (.array n _) => some (.int .i64 n)
  | _ => none
def minF (k : IntKind) : Int → List SV → Option Value
  | a, [] => some (.int k a)
  | a, .val (.int _ b) :: r => minF k (if b < a then b else a) r
  | _, _ => none
def maxF (k : IntKind) : Int → List SV → Option Value
  | a, [] => some (.int k a)
  | a, .val (.int _ b) :: r => maxF k (if b > a then b else a) r
  | _, _ => none
/-- whom a call of a function value calls, and with what -/
def calleeOf (e : Operand → SV) (c : Call) : Option (FuncId × List SV) := match c.callee with
  | .value f => match e f with
    | .val (.func (.func g) p cs) => some (g, p.toList.map .val ++ (c.args.toList.map e ++ cs.toList.map .val))
    | .fn (.func g) p cs => some (g, p ++ (c.args.toList.map e ++ cs))
    | _ => none
  | _ => none
def callV (P : Program) (T : Tab) (e : Operand → SV) (c : Call) : Option (Bool × SV) := match c.callee with
  | .builtin b => match b with
    | .len => match lnth? c.argTypes.toList 0 with
      | some t => match lnth? c.args.toList 0 with
        | some x => match lenE P t (e x) with
          | some v => some (true, .val v)
          | none => none
        | none => none
      | none => none
    | .min => match c.args.toList.map e with
      | .val (.int k a) :: r => match minF k a r with
        | some v => some (true, .val v)
        | none => none
      | _ => none
    | .max => match c.args.toList.map e with
      | .val (.int k a) :: r => match maxF k a r with
        | some v => some (true, .val v)
        | none => none
      | _ => none
    | _ => none
  | .invoke _ _ => none
  | .value _ => match calleeOf e c with
    | none => none
    | some (g, as) => match T g with
      | none => none
      | some F => match vals as with
        | none => none
        | some vs => match F vs with
          | none => none
          | some (ok, v) => some (ok, .val v)

def opV (P : Program) (G : Glob) (T : Tab) (bl : List (Option LB)) (e : Operand → SV) (o : Oper) : Option (Bool × SV) :=
  let tt (s : Option SV) : Option (Bool × SV) := match s with
    | some v => some (true, v)
    | none => none
  let tv (s : Option Value) : Option (Bool × SV) := match s with
    | some v => some (true, .val v)
    | none => none
  match o.op with
  | .move x => some (true, e x)
  | .assign x => some (true, e x)
  | .pick c x y => tt (pickE (e c) (e x) (e y))
  | .load t x => tt (loadE P G bl t (e x))
  | .build t parts => tt (buildE P t (parts.toList.map fun p => (p.1, e p.2)))
  | .nilCheck x => tt (nilE (e x))
  | .binOp op t x y _ => match e x with
    | .val a => match e y with
      | .val b => match binE P op t x y a b with
        | some (ok, v) => some (ok, .val v)
        | none => none
      | _ => none
    | _ => none
  | .unOp op _ x => match e x with
    | .val a => tv (unE op a)
    | _ => none
  | .convert s d x => match e x with
    | .val a => tv (convE P s d a)
    | _ => none
  | .makeInterface t x => tt (ifcE P t (e x))
  | .makeFunc f p c => some (true, mkFn f (p.toList.map e) (c.toList.map e))
  | .fieldAddr s x f => tt (fieldAddrE P s f (e x))
  | .field s x f => tt (fieldE P s f (e x))
  | .indexAddr t x i => indexAddrE P t (e x) (e i)
  | .index t x i => indexE P t (e x) (e i)
  | .slice t x lo hi mx => match mx with
    | none => sliceE P t (e x) (lo.map e) (hi.map e)
    | some _ => none
  | .extract x i => tt (extractE (e x) i)
  | .call c => callV P T e c
  | _ => none

def zeros (z : List Value) (n : Nat) : List Value := (List.range n).map fun i => z.toArray[i % z.length]!
def opN (P : Program) (e : Operand → SV) (o : Oper) : Option (List SV × TypeId × Option Nat) :=
  match o.op with
  | .alloc t => match zeroOf P t with
    | some z => some (z.map .val, t, none)
    | none => none
  | .box t x => match cellsOf (e x) with
    | some cs => some (cs, t, none)
    | none => none
  | .buildSlice t n parts => match P.underlying t with
    | some (.slice el) => match szOf P el with
      | some sz => match zeroOf P el with
        | some z => bif Nat.ble (n * sz) 16777216 && !(Nat.beq (n * sz) 0) then (match fillL (fun i => some (i * sz, sz)) ((zeros z (n * sz)).map .val) (parts.toList.map fun p => (p.1, e p.2)) with
          | some cs => some (cs, el, some n)
          | none => none) else none
        | none => none
      | none => none
    | _ => none
  | _ => none
def opP (P : Program) (e : Operand → SV) (o : Oper) : Option (Nat × Nat × List SV) :=
  match o.op with
  | .store t x v => match e x with
    | .ptr i p => match cellsOf (e v) with
      | some cs => match szOf P t with
        | some n => bif Nat.beq cs.length n && ones cs then some (i, p, cs) else none
        | none => none
      | none => none
    | _ => none
  | _ => none

def ev (tm : List SV) : Operand → SV
  | .tmp t => nth tm t
  | .const v => .val v
  | .global g => .glob g 0
  | .func f => .val (.func (.func f) #[] #[])
theorem ev_rl {ρ : Nat → Nat} {tm : List SV} {a : Act} (h : SV.rls ρ tm a.tmps.toList) (x : Operand) : SV.rl ρ (ev tm x) (a.eval x) := by
  cases x with
  | tmp t =>
    have := rls_nth t h
    have e : a.tmps.toList.getD t undef = a.tmps.getD t undef := by simp [Array.getD_eq_getD_getElem?, List.getD_eq_getElem?_getD]
    rw [e] at this
    exact this
  | const v => simp [ev, Act.eval, SV.rl]
  | global g => simp [ev, Act.eval, SV.rl]
  | func f => simp [ev, Act.eval, SV.rl]

def GOK (G : Glob) (w : World) : Prop := ∀ g cs, (g, cs) ∈ G → ∀ o v, cs[o]? = some v → w.cell? ⟨g, o, none⟩ = some v
def TabOK (P : Program) (G : Glob) (T : Tab) : Prop := ∀ g F, T g = some F →
  (∃ fn, P.funcs[g]? = some fn ∧ (fn.name == "runtime.NumGoroutine") = false ∧ fn.body.isNone = false) ∧
  ∀ vs v w, GOK G w → F vs = some (true, v) → Calls P g vs.toArray w fun e w' => e = .returned v ∧ Below w.heap.size w w'

section
variable {P : Program} {G : Glob} {T : Tab} {ρ : Nat → Nat} {base : Nat}

theorem wp_of_run {o : Oper} {a : Act} {w : World} {x : Value} (h : (execOp a.eval o).run P w = .ok (.value x) w) {K : Act → World → Prop} {Q : Exit → Act → World → Prop} (hK : K (a.put o.dst x) w) : o.wp P a w K Q := by
  unfold Oper.wp; rw [h]; exact hK

theorem parts_rl {e : Operand → SV} {ev' : Operand → Value} (h : ∀ x, SV.rl ρ (e x) (ev' x)) : ∀ (l : List (Nat × Operand)), Parts ρ (l.map fun p => (p.1, e p.2)) (l.map fun p => (p.1, ev' p.2))
  | [] => .nil
  | p :: r => .cons (h p.2) (parts_rl h r)
theorem evs_rl {e : Operand → SV} {ev' : Operand → Value} (h : ∀ x, SV.rl ρ (e x) (ev' x)) : ∀ (l : List Operand), SV.rls ρ (l.map e) (l.map ev')
  | [] => by simp [SV.rls]
  | p :: r => by simp only [List.map_cons, SV.rls]; exact ⟨h p, evs_rl h r⟩

theorem minF_run {k : IntKind} {w : World} : ∀ {r : List SV} {xs : List Value} {a : Int} {v : Value}, minF k a r = some v → SV.rls ρ r xs → (xs.foldlM Builtin.min2 (.int k a)).run P w = .ok v w
  | [], [], a, v, h, _ => by simp only [minF, Option.some.injEq] at h; subst h; simp
  | s :: r, x :: xs, a, v, h, hr => by
    simp only [SV.rls] at hr
    unfold minF at h
    split at h
    · rename_i heq; simp at heq
    · rename_i k' b r' heq
      simp only [List.cons.injEq] at heq
      obtain ⟨rfl, rfl⟩ := heq
      have := hr.1
      simp only [SV.rl] at this
      subst this
      simp only [List.foldlM_cons, Builtin.min2, Sem.run_bind, Sem.run_pure, Result.andThen_ok]
      exact minF_run h hr.2
    · simp at h
  | [], _ :: _, _, _, _, h => by simp [SV.rls] at h
  | _ :: _, [], _, _, _, h => by simp [SV.rls] at h
theorem maxF_run {k : IntKind} {w : World} : ∀ {r : List SV} {xs : List Value} {a : Int} {v : Value}, maxF k a r = some v → SV.rls ρ r xs → (xs.foldlM Builtin.max2 (.int k a)).run P w = .ok v w
  | [], [], a, v, h, _ => by simp only [maxF, Option.some.injEq] at h; subst h; simp
  | s :: r, x :: xs, a, v, h, hr => by
    simp only [SV.rls] at hr
    unfold maxF at h
    split at h
    · rename_i heq; simp at heq
    · rename_i k' b r' heq
      simp only [List.cons.injEq] at heq
      obtain ⟨rfl, rfl⟩ := heq
      have := hr.1
      simp only [SV.rl] at this
      subst this
      simp only [List.foldlM_cons, Builtin.max2, Sem.run_bind, Sem.run_pure, Result.andThen_ok]
      exact maxF_run h hr.2
    · simp at h
  | [], _ :: _, _, _, _, h => by simp [SV.rls] at h
  | _ :: _, [], _, _, _, h => by simp [SV.rls] at h

theorem lenE_run {t : TypeId} {x : SV} {y v : Value} {ats : Array TypeId} {ty : TypeId} (h : lenE P t x = some v) (hx : SV.rl ρ x y) (ht : ats[0]? = some t) {ys : Array Value} (hy : ys[0]? = some y) (w : World) :
    (Builtin.len_ ats ty ys).run P w = .ok v w := by
  unfold lenE at h
  split at h
  · rename_i hu
    split at h <;> try (simp at h; done)
    simp only [Option.some.injEq] at h; subst h
    simp only [SV.rl] at hx; subst hx
    simp [Builtin.len_, ht, hy, run_underlying hu, goInt]
  · rename_i hu
    split at h <;> try (simp at h; done)
    · simp only [Option.some.injEq] at h; subst h
      simp only [SV.rl] at hx
      obtain ⟨a, c, rfl, _⟩ := hx
      simp [Builtin.len_, ht, hy, run_underlying hu, goInt]
    · simp only [Option.some.injEq] at h; subst h
      simp only [SV.rl] at hx; subst hx
      simp [Builtin.len_, ht, hy, run_underlying hu, goInt]
  · rename_i hu
    simp only [Option.some.injEq] at h; subst h
    simp [Builtin.len_, ht, hy, run_underlying hu, goInt]
  · simp at h

theorem calleeOf_rl {e : Operand → SV} {a : Act} {c : Call} {g : FuncId} {as : List SV} (he : ∀ x, SV.rl ρ (e x) (a.eval x)) (h : calleeOf e c = some (g, as)) (ty : TypeId)
    (hfn : ∃ fn, P.funcs[g]? = some fn ∧ (fn.name == "runtime.NumGoroutine") = false ∧ fn.body.isNone = false) (w : World) :
    ∃ xs : List Value, SV.rls ρ as xs ∧ (do let d ← resolve a.eval c ty; invoke d.target d.args : Sem Next).run P w = .ok (.enter g xs.toArray) w := by
  obtain ⟨fn, hf1, hf2, hf3⟩ := hfn
  have key : ∀ xs : Array Value, (callFunc g xs).run P w = .ok (.enter g xs) w := by
    intro xs
    have n1 : fn.name ≠ "runtime.NumGoroutine" := by simpa using hf2
    have n2 : fn.body ≠ none := by intro e; simp [e] at hf3
    simp [callFunc, hf1, n1, n2]
  unfold calleeOf at h
  split at h <;> try (simp at h; done)
  rename_i f hf
  have h1 := he f
  split at h <;> try (simp at h; done)
  · rename_i g' p cs hfe
    simp only [Option.some.injEq, Prod.mk.injEq] at h
    obtain ⟨rfl, rfl⟩ := h
    rw [hfe] at h1
    simp only [SV.rl] at h1
    refine ⟨p.toList ++ (c.args.toList.map a.eval ++ cs.toList), rls_append (rls_vals _) (rls_append (evs_rl he _) (rls_vals _)), ?_⟩
    simp only [resolve, hf, h1, Deferred.ofValue, Sem.run_bind, Sem.run_pure, Result.andThen_ok, invoke, key]
    congr 2
    apply Array.ext'
    simp
  · rename_i g' p cs hfe
    simp only [Option.some.injEq, Prod.mk.injEq] at h
    obtain ⟨rfl, rfl⟩ := h
    rw [hfe] at h1
    simp only [SV.rl] at h1
    obtain ⟨ps, qs, hq, hp, hc⟩ := h1
    refine ⟨ps ++ (c.args.toList.map a.eval ++ qs), rls_append hp (rls_append (evs_rl he _) hc), ?_⟩
    simp only [resolve, hf, hq, Deferred.ofValue, Sem.run_bind, Sem.run_pure, Result.andThen_ok, invoke, key]
    congr 2
    apply Array.ext'
    simp

theorem opV_wp {bl : List (Option LB)} {o : Oper} {a : Act} {w : World} {v : SV} {e : Operand → SV} (hT : TabOK P G T) (he : ∀ x, SV.rl ρ (e x) (a.eval x)) (M : MRel G base ρ bl w)
    (h : opV P G T bl e o = some (true, v)) {K : Act → World → Prop} {Q : Exit → Act → World → Prop} (hK : ∀ x w', SV.rl ρ v x → Below w.heap.size w w' → K (a.put o.dst x) w') : o.wp P a w K Q := by
  have fin : ∀ x, (execOp a.eval o).run P w = .ok (.value x) w → SV.rl ρ v x → o.wp P a w K Q := fun x hx hr => wp_of_run hx (hK x w hr (Below.refl _ _))
  obtain ⟨dst, op, type, pos, after, guard⟩ := o
  cases op <;> simp only [opV] at h <;> try (simp at h; done)
  case move x =>
    simp only [Option.some.injEq, Prod.mk.injEq, true_and] at h; subst h
    exact fin _ rfl (he x)
  case assign x =>
    simp only [Option.some.injEq, Prod.mk.injEq, true_and] at h; subst h
    exact fin _ rfl (he x)
  case pick c x y =>
    split at h <;> try (simp at h; done)
    rename_i u hu
    simp only [Option.some.injEq, Prod.mk.injEq, true_and] at h; subst h
    have hc := he c
    have hx := he x
    have hy := he y
    unfold pickE at hu
    split at hu <;> try (simp at hu; done)
    rename_i b hb
    rw [hb] at hc
    simp only [SV.rl] at hc
    have hrun : (execOp a.eval ⟨dst, .pick c x y, type, pos, after, guard⟩).run P w = .ok (.value (if b then a.eval x else a.eval y)) w := by simp [execOp, hc, asBool]
    refine fin _ hrun ?_
    split at hu
    · rename_i p hp
      split at hu
      · rename_i q hq
        simp only [Option.some.injEq] at hu; subst hu
        rw [hp] at hx; rw [hq] at hy
        simp only [SV.rl] at hx hy ⊢
        rw [hx, hy]
        cases b <;> rfl
      · cases b <;> simp only [cond_true, cond_false, Option.some.injEq] at hu <;> subst hu <;> simp_all
    · cases b <;> simp only [cond_true, cond_false, Option.some.injEq] at hu <;> subst hu <;> simp_all
  case load t x =>
    split at h <;> try (simp at h; done)
    rename_i u hu
    simp only [Option.some.injEq, Prod.mk.injEq, true_and] at h; subst h
    obtain ⟨ad, y, h1, h2, h3⟩ := loadE_run M hu (he x)
    exact fin y (by simp [execOp, Instr.loadAt, h1, Instr.sureAddr, h2]) h3
  case build t parts =>
    split at h <;> try (simp at h; done)
    rename_i u hu
    simp only [Option.some.injEq, Prod.mk.injEq, true_and] at h; subst h
    obtain ⟨y, h1, h2⟩ := buildE_run hu (parts_rl he parts.toList) w
    refine fin y ?_ h2
    have : (parts.map fun (i, x) => (i, a.eval x)) = (parts.toList.map fun p => (p.1, a.eval p.2)).toArray := by apply Array.ext'; simp
    simp only [execOp, this, Sem.run_bind, h1, Result.andThen_ok, Sem.run_pure]
  case nilCheck x =>
    split at h <;> try (simp at h; done)
    rename_i u hu
    simp only [Option.some.injEq, Prod.mk.injEq, true_and] at h; subst h
    have hx := he x
    unfold nilE at hu
    split at hu <;> try (simp at hu; done)
    all_goals
      rename_i heq
      simp only [Option.some.injEq] at hu; subst hu
      rw [heq] at hx
      refine fin (a.eval x) ?_ hx
      simp only [SV.rl] at hx
      first
      | (simp [execOp, hx]; done)
      | (obtain ⟨ps, cs, hx, _⟩ := hx; simp [execOp, hx]; done)
  case binOp op t x y yt =>
    split at h <;> try (simp at h; done)
    rename_i p hp
    split at h <;> try (simp at h; done)
    rename_i q hq
    split at h <;> try (simp at h; done)
    rename_i ok r hb
    simp only [Option.some.injEq, Prod.mk.injEq] at h
    obtain ⟨rfl, rfl⟩ := h
    have hx := he x
    have hy := he y
    rw [hp] at hx; rw [hq] at hy
    simp only [SV.rl] at hx hy
    have h1 := binE_run hb w
    refine fin r ?_ (by simp [SV.rl])
    simp only [execOp, hx, hy, Sem.run_bind]
    simp only [Sem.run_bind] at h1
    rw [h1]; rfl
  case unOp op t x =>
    split at h <;> try (simp at h; done)
    rename_i p hp
    split at h <;> try (simp at h; done)
    rename_i r hr
    simp only [Option.some.injEq, Prod.mk.injEq, true_and] at h; subst h
    have hx := he x
    rw [hp] at hx
    simp only [SV.rl] at hx
    exact fin r (by simp [execOp, hx, unE_run hr]) (by simp [SV.rl])
  case convert s d x =>
    split at h <;> try (simp at h; done)
    rename_i p hp
    split at h <;> try (simp at h; done)
    rename_i r hr
    simp only [Option.some.injEq, Prod.mk.injEq, true_and] at h; subst h
    have hx := he x
    rw [hp] at hx
    simp only [SV.rl] at hx
    exact fin r (by simp [execOp, hx, convE_run hr]) (by simp [SV.rl])
  case makeInterface t x =>
    split at h <;> try (simp at h; done)
    rename_i u hu
    simp only [Option.some.injEq, Prod.mk.injEq, true_and] at h; subst h
    have hx := he x
    unfold ifcE at hu
    split at hu <;> try (simp at hu; done)
    rename_i d hn hd
    have hrun : (execOp a.eval ⟨dst, .makeInterface t x, type, pos, after, guard⟩).run P w = .ok (.value (.iface t (a.eval x))) w := by
      cases d <;> first | (exfalso; exact hn _ rfl) | simp [execOp, Instr.makeInterface, run_underlying hd]
    split at hu
    · rename_i p hp
      simp only [Option.some.injEq] at hu; subst hu
      rw [hp] at hx
      simp only [SV.rl] at hx
      exact fin _ hrun (by simp [SV.rl, hx])
    · simp only [Option.some.injEq] at hu; subst hu
      exact fin _ hrun (by simp only [SV.rl]; exact ⟨_, rfl, hx⟩)
  case makeFunc f p c =>
    simp only [Option.some.injEq, Prod.mk.injEq, true_and] at h; subst h
    refine fin _ ?_ (mkFn_rl (evs_rl he p.toList) (evs_rl he c.toList))
    simp only [execOp, Instr.makeFunc, Sem.run_bind, Sem.run_pure, Result.andThen_ok]
    congr 3 <;> (apply Array.ext'; simp)
  case fieldAddr s x f =>
    split at h <;> try (simp at h; done)
    rename_i u hu
    simp only [Option.some.injEq, Prod.mk.injEq, true_and] at h; subst h
    obtain ⟨z, h1, h2⟩ := fieldAddrE_run hu (he x) w
    exact fin z (by simp [execOp, h1]) h2
  case field s x f =>
    split at h <;> try (simp at h; done)
    rename_i u hu
    simp only [Option.some.injEq, Prod.mk.injEq, true_and] at h; subst h
    obtain ⟨z, h1, h2⟩ := fieldE_run hu (he x) w
    exact fin z (by simp [execOp, h1]) h2
  case indexAddr t x i =>
    obtain ⟨z, h1, h2⟩ := indexAddrE_run h (he x) (he i) w
    exact fin z (by simp [execOp, h1]) h2
  case index t x i =>
    obtain ⟨z, h1, h2⟩ := indexE_run h (he x) (he i) w
    exact fin z (by simp [execOp, h1]) h2
  case slice t x lo hi mx =>
    split at h <;> try (simp at h; done)
    obtain ⟨z, h1, h2⟩ := sliceE_run (lv := lo.map a.eval) (hv := hi.map a.eval) h (he x)
      (by intro s hs; cases lo <;> simp at hs; subst hs; exact ⟨_, rfl, he _⟩) (by intro s hs; cases hi <;> simp at hs; subst hs; exact ⟨_, rfl, he _⟩)
      (by intro hn; cases lo <;> simp_all) (by intro hn; cases hi <;> simp_all) w
    exact fin z (by simp [execOp, h1]) h2
  case extract x i =>
    split at h <;> try (simp at h; done)
    rename_i u hu
    simp only [Option.some.injEq, Prod.mk.injEq, true_and] at h; subst h
    obtain ⟨z, h1, h2⟩ := extractE_run (P := P) hu (he x) w
    exact fin z (by simp [execOp, h1]) h2
  case call c =>
    unfold callV at h
    split at h
    · rename_i b hb
      split at h <;> try (simp at h; done)
      · split at h <;> try (simp at h; done)
        rename_i t ht
        split at h <;> try (simp at h; done)
        rename_i x hx
        split at h <;> try (simp at h; done)
        rename_i u hu
        simp only [Option.some.injEq, Prod.mk.injEq, true_and] at h; subst h
        rw [lnth?_eq] at ht hx
        refine fin u ?_ (by simp [SV.rl])
        have h1 := lenE_run (ty := type) hu (he x) (by simpa using ht) (ys := c.args.map a.eval) (by simp at hx; simp [hx]) w
        simp [execOp, resolve, hb, invoke, builtin, h1]
      · split at h <;> try (simp at h; done)
        rename_i k p r hr
        split at h <;> try (simp at h; done)
        rename_i u hu
        simp only [Option.some.injEq, Prod.mk.injEq, true_and] at h; subst h
        have hl := evs_rl he c.args.toList
        rw [hr] at hl
        cases hm : c.args.toList.map a.eval with
        | nil => rw [hm] at hl; simp [SV.rls] at hl
        | cons y ys =>
          rw [hm] at hl
          simp only [SV.rls, SV.rl] at hl
          obtain ⟨rfl, hl⟩ := hl
          refine fin u ?_ (by simp [SV.rl])
          simp only [execOp, resolve, hb, invoke, builtin, Builtin.min_, Sem.run_bind, Sem.run_pure, Result.andThen_ok, Array.toList_map, hm, minF_run hu hl]
      · split at h <;> try (simp at h; done)
        rename_i k p r hr
        split at h <;> try (simp at h; done)
        rename_i u hu
        simp only [Option.some.injEq, Prod.mk.injEq, true_and] at h; subst h
        have hl := evs_rl he c.args.toList
        rw [hr] at hl
        cases hm : c.args.toList.map a.eval with
        | nil => rw [hm] at hl; simp [SV.rls] at hl
        | cons y ys =>
          rw [hm] at hl
          simp only [SV.rls, SV.rl] at hl
          obtain ⟨rfl, hl⟩ := hl
          refine fin u ?_ (by simp [SV.rl])
          simp only [execOp, resolve, hb, invoke, builtin, Builtin.max_, Sem.run_bind, Sem.run_pure, Result.andThen_ok, Array.toList_map, hm, maxF_run hu hl]
    · simp at h
    · split at h <;> try (simp at h; done)
      rename_i g as hc
      split at h <;> try (simp at h; done)
      rename_i F hF
      split at h <;> try (simp at h; done)
      rename_i vs hvs
      split at h <;> try (simp at h; done)
      rename_i ok r hr
      simp only [Option.some.injEq, Prod.mk.injEq] at h
      obtain ⟨rfl, rfl⟩ := h
      obtain ⟨hfn, hcall⟩ := hT g F hF
      obtain ⟨xs, hxs, hrun⟩ := calleeOf_rl he hc type hfn w
      rw [vals_rls hvs hxs] at hrun
      unfold Oper.wp
      show Oper.upon P _ a K Q ((do let d ← resolve a.eval c type; invoke d.target d.args : Sem Next).run P w)
      rw [hrun]
      simp only [Oper.upon_enter]
      refine (hcall vs r w M.gl hr).mono ?_
      rintro e w' ⟨rfl, hb⟩
      exact hK r w' (by simp [SV.rl]) hb

end
end Go.Wk
