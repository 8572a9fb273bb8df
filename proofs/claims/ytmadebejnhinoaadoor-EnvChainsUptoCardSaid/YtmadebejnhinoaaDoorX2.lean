/- The walk by evaluation, part E: one operation, whole; The walk by evaluation, part F: states, and one operation's step; The walk by evaluation, part G: the evaluator of code, without the regions that draw. Conditions: none. -/
import Derived.Test.YtmadebejnhinoaaDoorX1

set_option autoImplicit false
set_option linter.unusedVariables false
set_option linter.unusedSimpArgs false
set_option linter.unnecessarySimpa false
namespace Go.Wk
noncomputable section
open Go Go.RowKit

def nilE : SV → Option SV
  | .ep c y o => some (.ep c y o)
  | .ptr i o => some (.ptr i o)
  | .glob g o => some (.glob g o)
  | .fn (.func f) p c => some (.fn (.func f) p c)
  | .val (.func (.func f) p c) => some (.val (.func (.func f) p c))
  | .val (.pointer (some a)) => some (.val (.pointer (some a)))
  | _ => none
def ifcE (P : Program) (t : TypeId) (s : SV) : Option SV := match P.underlying t with
  | none => none
  | some (.interface _) => none
  | some _ => match s with
    | .val v => some (.val (.iface t v))
    | s => some (.ifc t s)
def pickE (c x y : SV) : Option SV := match c with
  | .val (.bool b) => match x with
    | .val (.bool p) => match y with
      | .val (.bool q) => some (.val (.bool (bif b then p else q)))
      | _ => bif b then some x else some y
    | _ => bif b then some x else some y
  | _ => none
def lenE (P : Program) (t : TypeId) (x : SV) : Option Value := match P.underlying t with
  | some .string => match x with
    | .val (.string s) => some (.int .i64 s.size)
    | _ => none
  | some (.slice _) => match x with
    | .slc _ _ n => some (.int .i64 n)
    | .dl _ xs => some (.int .i64 (xs.length : Nat))
    | .al _ _ xs => some (.int .i64 (xs.length : Nat))
    | .val (.slice _ n _) => some (.int .i64 n)
    | _ => none
  | some (.array n _) => some (.int .i64 n)
  | _ => none
def minF (k : IntKind) : Int → List SV → Option Value
  | a, [] => some (.int k a)
  | a, .val (.int _ b) :: r => minF k (if b < a then b else a) r
  | _, _ => none
def maxF (k : IntKind) : Int → List SV → Option Value
  | a, [] => some (.int k a)
  | a, .val (.int _ b) :: r => maxF k (if b > a then b else a) r
  | _, _ => none
/-- whom a call of a function value calls, and with what -/
def calleeOf (e : Operand → SV) (c : Call) : Option (FuncId × List SV) := match c.callee with
  | .value f => match e f with
    | .val (.func (.func g) p cs) => some (g, p.toList.map .val ++ (c.args.toList.map e ++ cs.toList.map .val))
    | .fn (.func g) p cs => some (g, p ++ (c.args.toList.map e ++ cs))
    | _ => none
  | _ => none
def callV (P : Program) (T : Tab) (e : Operand → SV) (c : Call) : Option (Bool × SV) := match c.callee with
  | .builtin b => match b with
    | .len => match lnth? c.argTypes.toList 0 with
      | some t => match lnth? c.args.toList 0 with
        | some x => match lenE P t (e x) with
          | some v => some (true, .val v)
          | none => none
        | none => none
      | none => none
    | .min => match c.args.toList.map e with
      | .val (.int k a) :: r => match minF k a r with
        | some v => some (true, .val v)
        | none => none
      | _ => none
    | .max => match c.args.toList.map e with
      | .val (.int k a) :: r => match maxF k a r with
        | some v => some (true, .val v)
        | none => none
      | _ => none
    | _ => none
  | .invoke _ _ => none
  | .value _ => match calleeOf e c with
    | none => none
    | some (g, as) => match T g with
      | none => none
      | some F => match F as with
        | none => none
        | some (ok, v) => bif SV.und 0 v then some (ok, v) else none

/-- the whole numbers of a listed variable's cells, all of one kind -/
def intsOf (k : IntKind) : List Value → Option (List Int)
  | [] => some []
  | .int k' n :: r => bif decide (k' = k) then (match intsOf k r with
    | some l => some (n :: l)
    | none => none) else none
  | _ => none
/-- a cell of a table -/
def loadI (P : Program) (G : Glob) (t : TypeId) (s : SV) : Option (Bool × SV) := match s with
  | .glob g o => match agK P t with
    | some false => match lookG G g with
      | some (.int k n :: r) => bif Nat.blt 15 r.length then (match intsOf k (.int k n :: r) with
        | some l => some (Nat.blt o l.length, .val (.int k (l.getD o 0)))
        | none => none) else none
      | _ => none
    | _ => none
  | _ => none
theorem intsOf_eq {k : IntKind} : ∀ {vs : List Value} {l : List Int}, intsOf k vs = some l → vs = l.map (.int k)
  | [], l, h => by simp only [intsOf, Option.some.injEq] at h; subst h; rfl
  | .int k' n :: r, l, h => by
    simp only [intsOf] at h
    by_cases e : k' = k
    · simp only [e, decide_true, cond_true] at h
      split at h
      · rename_i l' hl
        simp only [Option.some.injEq] at h
        subst h; subst e
        rw [intsOf_eq hl]; rfl
      · simp at h
    · simp [e] at h
  | .bool _ :: _, _, h | .float _ _ :: _, _, h | .complex _ _ _ :: _, _, h | .string _ :: _, _, h | .pointer _ :: _, _, h | .slice _ _ _ :: _, _, h | .agg _ :: _, _, h | .tuple _ :: _, _, h | .func _ _ _ :: _, _, h | .iface _ _ :: _, _, h | .nilIface :: _, _, h | .nilFunc :: _, _, h => by simp [intsOf] at h
/-- the code of a type's data -/
def mkP : List Cd → Option Cd
  | [] => none
  | [c] => some c
  | c :: r => match mkP r with
    | some d => some (.pair c d)
    | none => none
def cdFs (rec : TypeId → Option (List Cd)) : List Field → Option (List Cd)
  | [] => some []
  | f :: r => match rec f.type with
    | some a => match cdFs rec r with
      | some b => some (a ++ b)
      | none => none
    | none => none
def repC (l : List Cd) : Nat → List Cd
  | 0 => []
  | n + 1 => l ++ repC l n
def cdLs (P : Program) : Nat → TypeId → Option (List Cd)
  | 0, _ => none
  | d + 1, t => match P.underlying t with
    | some (.int k) => some [.int k]
    | some .bool => some [.bool]
    | some .string => some [.str]
    | some (.slice e) => match cdLs P d e with
      | some l => match mkP l with
        | some c => some [.list c]
        | none => none
      | none => none
    | some (.struct fs) => cdFs (cdLs P d) fs.toList
    | some (.array n e) => match cdLs P d e with
      | some l => some (repC l n)
      | none => none
    | _ => none
def cdOf (P : Program) (d : Nat) (t : TypeId) : Option Cd := match cdLs P d t with
  | some l => mkP l
  | none => none
/-- cells read as data -/
def decC : (c : Cd) → List SV → Option (c.T × List SV)
  | .int k, l => match l with
    | .val (.int k' n) :: r => bif decide (k' = k) then some (n, r) else none
    | _ => none
  | .bool, l => match l with
    | .val (.bool b) :: r => some (b, r)
    | _ => none
  | .str, l => match l with
    | .val (.string s) :: r => some (s, r)
    | _ => none
  | .list c, l => match l with
    | .dl c' xs :: r => match castL c' c xs with
      | some ys => some (ys, r)
      | none => none
    | .al _ c' xs :: r => match castL c' c xs with
      | some ys => some (ys, r)
      | none => none
    | .val (.slice none 0 0) :: r => some ([], r)
    | _ => none
  | .pair a b, l => match decC a l with
    | some (x, r) => match decC b r with
      | some (y, r') => some ((x, y), r')
      | none => none
    | none => none
def decN (c : Cd) : Nat → List SV → Option (List c.T)
  | 0, l => match l with
    | [] => some []
    | _ => none
  | n + 1, l => match decC c l with
    | some (y, r) => match decN c n r with
      | some ys => some (y :: ys)
      | none => none
    | none => none
def zerosV (z : List Value) (n : Nat) : List Value := (List.range n).map fun i => z.toArray[i % z.length]!
def buildSV (P : Program) (e : Operand → SV) (t : TypeId) (n : Nat) (parts : List (Nat × Operand)) : Option SV :=
  match P.underlying t with
  | some (.slice el) => match szOf P el with
    | some sz => match cdOf P 8 el with
      | some c => bif Nat.beq c.size sz && Nat.ble (n * sz) 16777216 then (match (bif Nat.beq (n * sz) 0 then some [] else zeroOf P el) with
        | some z => match fillL (fun i => some (i * sz, sz)) ((zerosV z (n * sz)).map .val) (parts.map fun p => (p.1, e p.2)) with
          | some cs => match decN c n cs with
            | some ys => some (.dl c ys)
            | none => none
          | none => none
        | none => none) else none
      | none => none
    | none => none
  | _ => none
def opV (P : Program) (G : Glob) (T : Tab) (bl : List (Option LB)) (e : Operand → SV) (o : Oper) : Option (Bool × SV) :=
  let tt (s : Option SV) : Option (Bool × SV) := match s with
    | some v => some (true, v)
    | none => none
  let tv (s : Option Value) : Option (Bool × SV) := match s with
    | some v => some (true, .val v)
    | none => none
  match o.op with
  | .move x => some (true, e x)
  | .assign x => some (true, e x)
  | .pick c x y => tt (pickE (e c) (e x) (e y))
  | .load t x => match loadI P G t (e x) with
    | some r => some r
    | none => tt (loadE P G bl t (e x))
  | .build t parts => tt (buildE P t (parts.toList.map fun p => (p.1, e p.2)))
  | .nilCheck x => tt (nilE (e x))
  | .binOp op t x y _ => match e x with
    | .val a => match e y with
      | .val b => match binE P op t x y a b with
        | some (ok, v) => some (ok, .val v)
        | none => none
      | _ => none
    | _ => none
  | .unOp op _ x => match e x with
    | .val a => tv (unE op a)
    | _ => none
  | .convert s d x => match e x with
    | .val a => tv (convE P s d a)
    | _ => none
  | .makeInterface t x => tt (ifcE P t (e x))
  | .makeFunc f p c => some (true, mkFn f (p.toList.map e) (c.toList.map e))
  | .fieldAddr s x f => tt (fieldAddrE P s f (e x))
  | .field s x f => tt (fieldE P s f (e x))
  | .indexAddr t x i => indexAddrE P t (e x) (e i)
  | .index t x i => indexE P t (e x) (e i)
  | .slice t x lo hi mx => match mx with
    | none => sliceE P t (e x) (lo.map e) (hi.map e)
    | some _ => none
  | .extract x i => tt (extractE (e x) i)
  | .call c => callV P T e c
  | .buildSlice t n parts => tt (buildSV P e t n parts.toList)
  | _ => none

def opN (P : Program) (e : Operand → SV) (o : Oper) : Option (List SV × TypeId × Option Nat) :=
  match o.op with
  | .alloc t => match zeroOf P t with
    | some z => some (z.map .val, t, none)
    | none => none
  | .box t x => match cellsOf (e x) with
    | some cs => some (cs, t, none)
    | none => none
  | _ => none
def opP (P : Program) (e : Operand → SV) (o : Oper) : Option (Nat × Nat × List SV) :=
  match o.op with
  | .store t x v => match e x with
    | .ptr i p => match cellsOf (e v) with
      | some cs => match szOf P t with
        | some n => bif Nat.beq cs.length n && ones cs then some (i, p, cs) else none
        | none => none
      | none => none
    | _ => none
  | _ => none

def ev (tm : List SV) : Operand → SV
  | .tmp t => nth tm t
  | .const v => .val v
  | .global g => .glob g 0
  | .func f => .val (.func (.func f) #[] #[])
theorem ev_rl {ρ : Rf} {tm : List SV} {a : Act} (h : SV.rls ρ tm a.tmps.toList) (x : Operand) : SV.rl ρ (ev tm x) (a.eval x) := by
  cases x with
  | tmp t =>
    have := rls_nth t h
    have e : a.tmps.toList.getD t undef = a.tmps.getD t undef := by simp [Array.getD_eq_getD_getElem?, List.getD_eq_getElem?_getD]
    rw [e] at this
    exact this
  | const v => simp [ev, Act.eval, SV.rl]
  | global g => simp [ev, Act.eval, SV.rl]
  | func f => simp [ev, Act.eval, SV.rl]

def GOK (G : Glob) (w : World) : Prop := ∀ g cs, (g, cs) ∈ G → GCell w g cs
theorem bif_t0 {α : Type} {c : Bool} {x : Option α} {y : α} (h : (bif c then x else none) = some y) : c = true ∧ x = some y := by cases c <;> simp_all
/-- what lies frozen does -/
def FOK (ρ : Rf) (w : World) : Prop := ∀ b o v, ρ.fz b o = some v → w.cell? ⟨b, o, none⟩ = some v
def TabOK (P : Program) (G : Glob) (T : Tab) : Prop := ∀ g F, T g = some F →
  ((∃ fn, P.funcs[g]? = some fn ∧ (fn.name == "runtime.NumGoroutine") = false ∧ fn.body.isNone = false) ∧
  ∀ (as : List SV) (r : SV) (ρ : Rf) (xs : List Value) (w : World), GOK G w → FOK ρ w → SV.rls ρ as xs → F as = some (true, r) → Calls P g xs.toArray w fun e w' => ∃ x, e = .returned x ∧ Below w.heap.size w w' ∧ SV.rl (ρ.grow w w') r x) ∨
  (∀ (as : List SV) (r : SV) (ρ : Rf) (xs : List Value) (w : World), SV.rls ρ as xs → F as = some (true, r) → ∃ x, (callFunc g xs.toArray).run P w = .ok (.value x) w ∧ SV.rl ρ r x)

section
variable {P : Program} {G : Glob} {T : Tab} {ρ : Rf} {base : Bs}

theorem wp_of_run {o : Oper} {a : Act} {w : World} {x : Value} (h : (execOp a.eval o).run P w = .ok (.value x) w) {K : Act → World → Prop} {Q : Exit → Act → World → Prop} (hK : K (a.put o.dst x) w) : o.wp P a w K Q := by
  unfold Oper.wp; rw [h]; exact hK

theorem parts_rl {e : Operand → SV} {ev' : Operand → Value} (h : ∀ x, SV.rl ρ (e x) (ev' x)) : ∀ (l : List (Nat × Operand)), Parts ρ (l.map fun p => (p.1, e p.2)) (l.map fun p => (p.1, ev' p.2))
  | [] => .nil
  | p :: r => .cons (h p.2) (parts_rl h r)
theorem evs_rl {e : Operand → SV} {ev' : Operand → Value} (h : ∀ x, SV.rl ρ (e x) (ev' x)) : ∀ (l : List Operand), SV.rls ρ (l.map e) (l.map ev')
  | [] => by simp [SV.rls]
  | p :: r => by simp only [List.map_cons, SV.rls]; exact ⟨h p, evs_rl h r⟩

theorem minF_run {k : IntKind} {w : World} : ∀ {r : List SV} {xs : List Value} {a : Int} {v : Value}, minF k a r = some v → SV.rls ρ r xs → (xs.foldlM Builtin.min2 (.int k a)).run P w = .ok v w
  | [], [], a, v, h, _ => by simp only [minF, Option.some.injEq] at h; subst h; simp
  | s :: r, x :: xs, a, v, h, hr => by
    simp only [SV.rls] at hr
    unfold minF at h
    split at h
    · rename_i heq; simp at heq
    · rename_i k' b r' heq
      simp only [List.cons.injEq] at heq
      obtain ⟨rfl, rfl⟩ := heq
      have := hr.1
      simp only [SV.rl] at this
      subst this
      simp only [List.foldlM_cons, Builtin.min2, Sem.run_bind, Sem.run_pure, Result.andThen_ok]
      exact minF_run h hr.2
    · simp at h
  | [], _ :: _, _, _, _, h => by simp [SV.rls] at h
  | _ :: _, [], _, _, _, h => by simp [SV.rls] at h
theorem maxF_run {k : IntKind} {w : World} : ∀ {r : List SV} {xs : List Value} {a : Int} {v : Value}, maxF k a r = some v → SV.rls ρ r xs → (xs.foldlM Builtin.max2 (.int k a)).run P w = .ok v w
  | [], [], a, v, h, _ => by simp only [maxF, Option.some.injEq] at h; subst h; simp
  | s :: r, x :: xs, a, v, h, hr => by
    simp only [SV.rls] at hr
    unfold maxF at h
    split at h
    · rename_i heq; simp at heq
    · rename_i k' b r' heq
      simp only [List.cons.injEq] at heq
      obtain ⟨rfl, rfl⟩ := heq
      have := hr.1
      simp only [SV.rl] at this
      subst this
      simp only [List.foldlM_cons, Builtin.max2, Sem.run_bind, Sem.run_pure, Result.andThen_ok]
      exact maxF_run h hr.2
    · simp at h
  | [], _ :: _, _, _, _, h => by simp [SV.rls] at h
  | _ :: _, [], _, _, _, h => by simp [SV.rls] at h

theorem lenE_run {t : TypeId} {x : SV} {y v : Value} {ats : Array TypeId} {ty : TypeId} (h : lenE P t x = some v) (hx : SV.rl ρ x y) (ht : ats[0]? = some t) {ys : Array Value} (hy : ys[0]? = some y) (w : World) :
    (Builtin.len_ ats ty ys).run P w = .ok v w := by
  unfold lenE at h
  split at h
  · rename_i hu
    split at h <;> try (simp at h; done)
    simp only [Option.some.injEq] at h; subst h
    simp only [SV.rl] at hx; subst hx
    simp [Builtin.len_, ht, hy, run_underlying hu, goInt]
  · rename_i hu
    split at h <;> try (simp at h; done)
    · simp only [Option.some.injEq] at h; subst h
      simp only [SV.rl] at hx
      obtain ⟨a, c, rfl, _⟩ := hx
      simp [Builtin.len_, ht, hy, run_underlying hu, goInt]
    · simp only [Option.some.injEq] at h; subst h
      simp only [SV.rl] at hx
      obtain ⟨a, cap, rfl, _⟩ := rc_at hx
      simp [Builtin.len_, ht, hy, run_underlying hu, goInt]
    · simp only [Option.some.injEq] at h; subst h
      simp only [SV.rl] at hx
      obtain ⟨a, cap, rfl, _⟩ := rc_at hx.2
      simp [Builtin.len_, ht, hy, run_underlying hu, goInt]
    · simp only [Option.some.injEq] at h; subst h
      simp only [SV.rl] at hx; subst hx
      simp [Builtin.len_, ht, hy, run_underlying hu, goInt]
  · rename_i hu
    simp only [Option.some.injEq] at h; subst h
    simp [Builtin.len_, ht, hy, run_underlying hu, goInt]
  · simp at h

theorem enter_of {g : FuncId} (hfn : ∃ fn, P.funcs[g]? = some fn ∧ (fn.name == "runtime.NumGoroutine") = false ∧ fn.body.isNone = false) (w : World) (xs : Array Value) :
    (callFunc g xs).run P w = .ok (.enter g xs) w := by
  obtain ⟨fn, hf1, hf2, hf3⟩ := hfn
  have n1 : fn.name ≠ "runtime.NumGoroutine" := by simpa using hf2
  have n2 : fn.body ≠ none := by intro e; simp [e] at hf3
  simp [callFunc, hf1, n1, n2]
theorem calleeOf_run {e : Operand → SV} {a : Act} {c : Call} {g : FuncId} {as : List SV} (he : ∀ x, SV.rl ρ (e x) (a.eval x)) (h : calleeOf e c = some (g, as)) (ty : TypeId) (w : World) :
    ∃ xs : List Value, SV.rls ρ as xs ∧ (do let d ← resolve a.eval c ty; invoke d.target d.args : Sem Next).run P w = (callFunc g xs.toArray).run P w := by
  unfold calleeOf at h
  split at h <;> try (simp at h; done)
  rename_i f hf
  have h1 := he f
  split at h <;> try (simp at h; done)
  · rename_i g' p cs hfe
    simp only [Option.some.injEq, Prod.mk.injEq] at h
    obtain ⟨rfl, rfl⟩ := h
    rw [hfe] at h1
    simp only [SV.rl] at h1
    refine ⟨p.toList ++ (c.args.toList.map a.eval ++ cs.toList), rls_append (rls_vals _) (rls_append (evs_rl he _) (rls_vals _)), ?_⟩
    simp only [resolve, hf, h1, Deferred.ofValue, Sem.run_bind, Sem.run_pure, Result.andThen_ok, invoke]
    congr 2
    apply Array.ext'
    simp
  · rename_i g' p cs hfe
    simp only [Option.some.injEq, Prod.mk.injEq] at h
    obtain ⟨rfl, rfl⟩ := h
    rw [hfe] at h1
    simp only [SV.rl] at h1
    obtain ⟨ps, qs, hq, hp, hc⟩ := h1
    refine ⟨ps ++ (c.args.toList.map a.eval ++ qs), rls_append hp (rls_append (evs_rl he _) hc), ?_⟩
    simp only [resolve, hf, hq, Deferred.ofValue, Sem.run_bind, Sem.run_pure, Result.andThen_ok, invoke]
    congr 2
    apply Array.ext'
    simp
theorem calleeOf_rl {e : Operand → SV} {a : Act} {c : Call} {g : FuncId} {as : List SV} (he : ∀ x, SV.rl ρ (e x) (a.eval x)) (h : calleeOf e c = some (g, as)) (ty : TypeId)
    (hfn : ∃ fn, P.funcs[g]? = some fn ∧ (fn.name == "runtime.NumGoroutine") = false ∧ fn.body.isNone = false) (w : World) :
    ∃ xs : List Value, SV.rls ρ as xs ∧ (do let d ← resolve a.eval c ty; invoke d.target d.args : Sem Next).run P w = .ok (.enter g xs.toArray) w := by
  obtain ⟨xs, hx, hr⟩ := calleeOf_run he h ty w
  exact ⟨xs, hx, hr.trans (enter_of hfn w _)⟩

theorem loadI_run {bl : List (Option LB)} {w : World} {t : TypeId} {s v : SV} {x : Value} (M : MRel G base ρ bl w)
    (h : loadI P G t s = some (true, v)) (hs : SV.rl ρ s x) : ∃ a y, x = .pointer (some a) ∧ (loadVar t a).run P w = .ok y w ∧ SV.rl ρ v y := by
  unfold loadI at h
  split at h <;> try (simp at h; done)
  rename_i g o
  split at h <;> try (simp at h; done)
  rename_i ha
  split at h <;> try (simp at h; done)
  rename_i k n r hg
  obtain ⟨_, h'⟩ := bif_t0 h
  clear h
  split at h' <;> try (simp at h'; done)
  rename_i l hl
  simp only [Option.some.injEq, Prod.mk.injEq] at h'
  obtain ⟨hb, rfl⟩ := h'
  have hlt : o < l.length := by simpa [Nat.blt_eq] using hb
  simp only [SV.rl] at hs
  refine ⟨⟨g, o, none⟩, .int k (l.getD o 0), hs, ?_, by simp [SV.rl]⟩
  have hv : (Value.int k n :: r)[o]? = some (.int k (l.getD o 0)) := by
    rw [intsOf_eq hl]; simp [hlt]
  simp [loadVar, run_isAgg ha, (M.gl g _ (lookG_mem hg)).cell (o := o) hv]

theorem decC_rc : ∀ {c : Cd} {l r : List SV} {y : c.T} {vs : List Value}, decC c l = some (y, r) → SV.rls ρ l vs → ∃ us ws, vs = us ++ ws ∧ rc ρ.fz c y us ∧ SV.rls ρ r ws
  | .int k, l, r, y, vs, h, hl => by
    simp only [decC] at h
    split at h <;> try (simp at h; done)
    rename_i k' n r'
    obtain ⟨hk, h'⟩ := bif_t0 h
    simp only [decide_eq_true_eq] at hk
    subst hk
    simp only [Option.some.injEq, Prod.mk.injEq] at h'
    obtain ⟨rfl, rfl⟩ := h'
    match vs, hl with
    | v :: vs, hl => simp only [SV.rls, SV.rl] at hl; exact ⟨[v], vs, rfl, by simp only [rc]; rw [hl.1], hl.2⟩
    | [], hl => simp [SV.rls] at hl
  | .bool, l, r, y, vs, h, hl => by
    simp only [decC] at h
    split at h <;> try (simp at h; done)
    simp only [Option.some.injEq, Prod.mk.injEq] at h
    obtain ⟨rfl, rfl⟩ := h
    match vs, hl with
    | v :: vs, hl => simp only [SV.rls, SV.rl] at hl; exact ⟨[v], vs, rfl, by simp only [rc]; rw [hl.1], hl.2⟩
    | [], hl => simp [SV.rls] at hl
  | .str, l, r, y, vs, h, hl => by
    simp only [decC] at h
    split at h <;> try (simp at h; done)
    simp only [Option.some.injEq, Prod.mk.injEq] at h
    obtain ⟨rfl, rfl⟩ := h
    match vs, hl with
    | v :: vs, hl => simp only [SV.rls, SV.rl] at hl; exact ⟨[v], vs, rfl, by simp only [rc]; rw [hl.1], hl.2⟩
    | [], hl => simp [SV.rls] at hl
  | .list c, l, r, y, vs, h, hl => by
    simp only [decC] at h
    split at h
    · split at h <;> try (simp at h; done)
      rename_i hz
      obtain ⟨rfl, hz⟩ := castL_eq hz
      cases hz
      simp only [Option.some.injEq, Prod.mk.injEq] at h
      obtain ⟨rfl, rfl⟩ := h
      match vs, hl with
      | v :: vs, hl => simp only [SV.rls, SV.rl] at hl; exact ⟨[v], vs, rfl, hl.1, hl.2⟩
      | [], hl => simp [SV.rls] at hl
    · split at h <;> try (simp at h; done)
      rename_i hz
      obtain ⟨rfl, hz⟩ := castL_eq hz
      cases hz
      simp only [Option.some.injEq, Prod.mk.injEq] at h
      obtain ⟨rfl, rfl⟩ := h
      match vs, hl with
      | v :: vs, hl => simp only [SV.rls, SV.rl] at hl; exact ⟨[v], vs, rfl, hl.1.2, hl.2⟩
      | [], hl => simp [SV.rls] at hl
    · simp only [Option.some.injEq, Prod.mk.injEq] at h
      obtain ⟨rfl, rfl⟩ := h
      match vs, hl with
      | v :: vs, hl =>
        simp only [SV.rls, SV.rl] at hl
        exact ⟨[v], vs, rfl, by simp only [rc]; exact ⟨none, 0, by rw [hl.1]; rfl, Nat.le_refl _, fun i hi => by simp at hi⟩, hl.2⟩
      | [], hl => simp [SV.rls] at hl
    · simp at h
  | .pair a b, l, r, y, vs, h, hl => by
    simp only [decC] at h
    split at h <;> try (simp at h; done)
    rename_i x r1 h1
    split at h <;> try (simp at h; done)
    rename_i y' r2 h2
    simp only [Option.some.injEq, Prod.mk.injEq] at h
    obtain ⟨rfl, rfl⟩ := h
    obtain ⟨us, ws, rfl, a1, a2⟩ := decC_rc h1 hl
    obtain ⟨us', ws', rfl, b1, b2⟩ := decC_rc h2 a2
    exact ⟨us ++ us', ws', by simp, by simp only [rc]; exact ⟨us, us', rfl, a1, b1⟩, b2⟩
theorem decN_rc {c : Cd} : ∀ {n : Nat} {l : List SV} {ys : List c.T} {vs : List Value}, decN c n l = some ys → SV.rls ρ l vs → ys.length = n ∧ ∀ i, (h : i < ys.length) → ∃ ws, rc ρ.fz c ys[i] ws ∧ ∀ j v, ws[j]? = some v → vs[i * c.size + j]? = some v
  | 0, l, ys, vs, h, _ => by
    simp only [decN] at h
    split at h <;> try (simp at h; done)
    simp only [Option.some.injEq] at h; subst h
    exact ⟨rfl, fun i hi => by simp at hi⟩
  | n + 1, l, ys, vs, h, hl => by
    simp only [decN] at h
    split at h <;> try (simp at h; done)
    rename_i y r h1
    split at h <;> try (simp at h; done)
    rename_i ys' h2
    simp only [Option.some.injEq] at h; subst h
    obtain ⟨us, ws, rfl, a1, a2⟩ := decC_rc h1 hl
    obtain ⟨e, ih⟩ := decN_rc h2 a2
    have hu := rc_len a1
    refine ⟨by simp [e], fun i hi => ?_⟩
    cases i with
    | zero =>
      refine ⟨us, a1, fun j v hj => ?_⟩
      have hlt := (List.getElem?_eq_some_iff.1 hj).1
      rw [Nat.zero_mul, Nat.zero_add, List.getElem?_append_left hlt]
      exact hj
    | succ i =>
      obtain ⟨ws', b1, b2⟩ := ih i (by simpa using hi)
      refine ⟨ws', by simpa using b1, fun j v hj => ?_⟩
      rw [List.getElem?_append_right (by rw [hu, Nat.add_mul]; omega), show (i + 1) * c.size + j - us.length = i * c.size + j by rw [hu, Nat.add_mul]; omega]
      exact b2 j v hj
theorem zerosV_arr (z : Array Value) (n : Nat) : ((Array.range n).map fun i => z[i % z.size]!) = (zerosV z.toList n).toArray := by
  apply Array.ext'
  simp [zerosV]
theorem alloc_new_cell (w : World) (cs : Array Value) (t : TypeId) (j : Nat) : (w.alloc (.cells cs t)).cell? ⟨w.heap.size, j, none⟩ = cs[j]? := World.cell?_alloc_new w cs t j
theorem buildSV_run {bl : List (Option LB)} {w : World} {e : Operand → SV} {ev' : Operand → Value} {t : TypeId} {n : Nat} {parts : List (Nat × Operand)} {v : SV} (he : ∀ x, SV.rl ρ (e x) (ev' x)) (M : MRel G base ρ bl w)
    (h : buildSV P e t n parts = some v) : ∃ x w', (Instr.buildSlice t n (parts.map fun p => (p.1, ev' p.2)).toArray).run P w = .ok x w' ∧ Below w.heap.size w w' ∧ SV.rl (ρ.grow w w') v x := by
  unfold buildSV at h
  split at h <;> try (simp at h; done)
  rename_i el hu
  split at h <;> try (simp at h; done)
  rename_i sz hs
  split at h <;> try (simp at h; done)
  rename_i c hc
  obtain ⟨hb, h'⟩ := bif_t0 h
  clear h
  simp only [Bool.and_eq_true] at hb
  have hsz := Nat.eq_of_beq_eq_true hb.1
  have h16 := Nat.le_of_ble_eq_true hb.2
  subst hsz
  split at h' <;> try (simp at h'; done)
  rename_i z hz
  split at h' <;> try (simp at h'; done)
  rename_i cs hcs
  split at h' <;> try (simp at h'; done)
  rename_i ys hys
  simp only [Option.some.injEq] at h'
  subst h'
  obtain ⟨vs, hv, hvr⟩ := fill_run (parts_rl he parts) (rls_vals (ρ := ρ) (zerosV z (n * c.size))) hcs
  obtain ⟨hn, hel⟩ := decN_rc hys hvr
  have hlim : ¬ (n * c.size > 2 ^ 24) := by omega
  have hp : ((parts.map fun p => (p.1, ev' p.2)).toArray).toList = parts.map fun p => (p.1, ev' p.2) := by simp
  refine ⟨.slice (some ⟨w.heap.size, 0, none⟩) n n, w.alloc (.cells vs el), ?_, alloc_below w _, ?_⟩
  · cases h0 : Nat.beq (n * c.size) 0 with
    | true =>
      have h00 := Nat.eq_of_beq_eq_true h0
      rw [h0] at hz
      simp only [cond_true, Option.some.injEq] at hz
      subst hz
      have e0 : ((Array.range (n * c.size)).map fun i => (#[] : Array Value)[i % (#[] : Array Value).size]!) = (zerosV [] (n * c.size)).toArray := zerosV_arr #[] (n * c.size)
      have hl0 : ¬ ((0 : Nat) > 2 ^ 24) := by omega
      simp only [Instr.buildSlice, Sem.run_bind, run_underlying hu, run_sizeOf hs, Result.andThen_ok, h00, hl0, if_false, if_true, Sem.run_pure]
      rw [h00] at e0 hv
      rw [e0]
      simp only [hv, newRow, Sem.run_bind, run_newObj, Result.andThen_ok, Sem.run_pure, World.alloc_eq]
    | false =>
      have h00 : n * c.size ≠ 0 := fun e => by rw [e] at h0; simp at h0
      rw [h0] at hz
      simp only [cond_false] at hz
      obtain ⟨zv, h1, h2⟩ := run_zeroValue hz w
      have hz' := zerosV_arr zv.cells (n * c.size)
      rw [h2] at hz'
      simp only [Instr.buildSlice, Sem.run_bind, run_underlying hu, run_sizeOf hs, Result.andThen_ok, hlim, h00, if_false, Sem.run_pure, h1, hz', hp, hv, newRow, run_newObj, World.alloc_eq]
  · simp only [SV.rl, rc]
    refine ⟨some ⟨w.heap.size, 0, none⟩, n, by rw [hn], by omega, fun i hi => ?_⟩
    obtain ⟨ws, k1, k2⟩ := hel i hi
    refine ⟨w.heap.size, 0, ws, rfl, fun j u hj => ?_, rc_le (M.grow_le _).2.2 k1⟩
    simp only [Rf.grow, Nat.lt_irrefl, if_false]
    rw [alloc_new_cell]
    have := k2 j u hj
    simpa using this
theorem opV_wp {bl : List (Option LB)} {o : Oper} {a : Act} {w : World} {v : SV} {e : Operand → SV} (hT : TabOK P G T) (he : ∀ x, SV.rl ρ (e x) (a.eval x)) (M : MRel G base ρ bl w)
    (h : opV P G T bl e o = some (true, v)) {K : Act → World → Prop} {Q : Exit → Act → World → Prop} (hK : ∀ ρ' x w', ρ.le ρ' → MRel G base ρ' bl w' → SV.rl ρ' v x → Below w.heap.size w w' → K (a.put o.dst x) w') : o.wp P a w K Q := by
  have fin : ∀ x, (execOp a.eval o).run P w = .ok (.value x) w → SV.rl ρ v x → o.wp P a w K Q := fun x hx hr => wp_of_run hx (hK ρ x w ρ.le_refl M hr (Below.refl _ _))
  obtain ⟨dst, op, type, pos, after, guard⟩ := o
  cases op <;> simp only [opV] at h <;> try (simp at h; done)
  case move x =>
    simp only [Option.some.injEq, Prod.mk.injEq, true_and] at h; subst h
    exact fin _ rfl (he x)
  case assign x =>
    simp only [Option.some.injEq, Prod.mk.injEq, true_and] at h; subst h
    exact fin _ rfl (he x)
  case pick c x y =>
    split at h <;> try (simp at h; done)
    rename_i u hu
    simp only [Option.some.injEq, Prod.mk.injEq, true_and] at h; subst h
    have hc := he c
    have hx := he x
    have hy := he y
    unfold pickE at hu
    split at hu <;> try (simp at hu; done)
    rename_i b hb
    rw [hb] at hc
    simp only [SV.rl] at hc
    have hrun : (execOp a.eval ⟨dst, .pick c x y, type, pos, after, guard⟩).run P w = .ok (.value (if b then a.eval x else a.eval y)) w := by simp [execOp, hc, asBool]
    refine fin _ hrun ?_
    split at hu
    · rename_i p hp
      split at hu
      · rename_i q hq
        simp only [Option.some.injEq] at hu; subst hu
        rw [hp] at hx; rw [hq] at hy
        simp only [SV.rl] at hx hy ⊢
        rw [hx, hy]
        cases b <;> rfl
      · cases b <;> simp only [cond_true, cond_false, Option.some.injEq] at hu <;> subst hu <;> simp_all
    · cases b <;> simp only [cond_true, cond_false, Option.some.injEq] at hu <;> subst hu <;> simp_all
  case load t x =>
    split at h
    · rename_i r hr
      simp only [Option.some.injEq] at h; subst h
      obtain ⟨ad, y, h1, h2, h3⟩ := loadI_run M hr (he x)
      exact fin y (by simp [execOp, Instr.loadAt, h1, Instr.sureAddr, h2]) h3
    split at h <;> try (simp at h; done)
    rename_i u hu
    simp only [Option.some.injEq, Prod.mk.injEq, true_and] at h; subst h
    obtain ⟨ad, y, h1, h2, h3⟩ := loadE_run M hu (he x)
    exact fin y (by simp [execOp, Instr.loadAt, h1, Instr.sureAddr, h2]) h3
  case build t parts =>
    split at h <;> try (simp at h; done)
    rename_i u hu
    simp only [Option.some.injEq, Prod.mk.injEq, true_and] at h; subst h
    obtain ⟨y, h1, h2⟩ := buildE_run hu (parts_rl he parts.toList) w
    refine fin y ?_ h2
    have : (parts.map fun (i, x) => (i, a.eval x)) = (parts.toList.map fun p => (p.1, a.eval p.2)).toArray := by apply Array.ext'; simp
    simp only [execOp, this, Sem.run_bind, h1, Result.andThen_ok, Sem.run_pure]
  case nilCheck x =>
    split at h <;> try (simp at h; done)
    rename_i u hu
    simp only [Option.some.injEq, Prod.mk.injEq, true_and] at h; subst h
    have hx := he x
    unfold nilE at hu
    split at hu <;> try (simp at hu; done)
    all_goals
      rename_i heq
      simp only [Option.some.injEq] at hu; subst hu
      rw [heq] at hx
      refine fin (a.eval x) ?_ hx
      simp only [SV.rl] at hx
      first
      | (simp [execOp, hx]; done)
      | (obtain ⟨b, o', ws, hx, _⟩ := hx; simp [execOp, hx]; done)
      | (obtain ⟨ps, cs, hx, _⟩ := hx; simp [execOp, hx]; done)
  case binOp op t x y yt =>
    split at h <;> try (simp at h; done)
    rename_i p hp
    split at h <;> try (simp at h; done)
    rename_i q hq
    split at h <;> try (simp at h; done)
    rename_i ok r hb
    simp only [Option.some.injEq, Prod.mk.injEq] at h
    obtain ⟨rfl, rfl⟩ := h
    have hx := he x
    have hy := he y
    rw [hp] at hx; rw [hq] at hy
    simp only [SV.rl] at hx hy
    have h1 := binE_run hb w
    refine fin r ?_ (by simp [SV.rl])
    simp only [execOp, hx, hy, Sem.run_bind]
    simp only [Sem.run_bind] at h1
    rw [h1]; rfl
  case unOp op t x =>
    split at h <;> try (simp at h; done)
    rename_i p hp
    split at h <;> try (simp at h; done)
    rename_i r hr
    simp only [Option.some.injEq, Prod.mk.injEq, true_and] at h; subst h
    have hx := he x
    rw [hp] at hx
    simp only [SV.rl] at hx
    exact fin r (by simp [execOp, hx, unE_run hr]) (by simp [SV.rl])
  case convert s d x =>
    split at h <;> try (simp at h; done)
    rename_i p hp
    split at h <;> try (simp at h; done)
    rename_i r hr
    simp only [Option.some.injEq, Prod.mk.injEq, true_and] at h; subst h
    have hx := he x
    rw [hp] at hx
    simp only [SV.rl] at hx
    exact fin r (by simp [execOp, hx, convE_run hr]) (by simp [SV.rl])
  case makeInterface t x =>
    split at h <;> try (simp at h; done)
    rename_i u hu
    simp only [Option.some.injEq, Prod.mk.injEq, true_and] at h; subst h
    have hx := he x
    unfold ifcE at hu
    split at hu <;> try (simp at hu; done)
    rename_i d hn hd
    have hrun : (execOp a.eval ⟨dst, .makeInterface t x, type, pos, after, guard⟩).run P w = .ok (.value (.iface t (a.eval x))) w := by
      cases d <;> first | (exfalso; exact hn _ rfl) | simp [execOp, Instr.makeInterface, run_underlying hd]
    split at hu
    · rename_i p hp
      simp only [Option.some.injEq] at hu; subst hu
      rw [hp] at hx
      simp only [SV.rl] at hx
      exact fin _ hrun (by simp [SV.rl, hx])
    · simp only [Option.some.injEq] at hu; subst hu
      exact fin _ hrun (by simp only [SV.rl]; exact ⟨_, rfl, hx⟩)
  case makeFunc f p c =>
    simp only [Option.some.injEq, Prod.mk.injEq, true_and] at h; subst h
    refine fin _ ?_ (mkFn_rl (evs_rl he p.toList) (evs_rl he c.toList))
    simp only [execOp, Instr.makeFunc, Sem.run_bind, Sem.run_pure, Result.andThen_ok]
    congr 3 <;> (apply Array.ext'; simp)
  case fieldAddr s x f =>
    split at h <;> try (simp at h; done)
    rename_i u hu
    simp only [Option.some.injEq, Prod.mk.injEq, true_and] at h; subst h
    obtain ⟨z, h1, h2⟩ := fieldAddrE_run hu (he x) w
    exact fin z (by simp [execOp, h1]) h2
  case field s x f =>
    split at h <;> try (simp at h; done)
    rename_i u hu
    simp only [Option.some.injEq, Prod.mk.injEq, true_and] at h; subst h
    obtain ⟨z, h1, h2⟩ := fieldE_run hu (he x) w
    exact fin z (by simp [execOp, h1]) h2
  case indexAddr t x i =>
    obtain ⟨z, h1, h2⟩ := indexAddrE_run h (he x) (he i) w
    exact fin z (by simp [execOp, h1]) h2
  case index t x i =>
    obtain ⟨z, h1, h2⟩ := indexE_run h (he x) (he i) w
    exact fin z (by simp [execOp, h1]) h2
  case slice t x lo hi mx =>
    split at h <;> try (simp at h; done)
    obtain ⟨z, h1, h2⟩ := sliceE_run (lv := lo.map a.eval) (hv := hi.map a.eval) h (he x)
      (by intro s hs; cases lo <;> simp at hs; subst hs; exact ⟨_, rfl, he _⟩) (by intro s hs; cases hi <;> simp at hs; subst hs; exact ⟨_, rfl, he _⟩)
      (by intro hn; cases lo <;> simp_all) (by intro hn; cases hi <;> simp_all) w
    exact fin z (by simp [execOp, h1]) h2
  case buildSlice t n parts =>
    split at h <;> try (simp at h; done)
    rename_i u hu
    simp only [Option.some.injEq, Prod.mk.injEq, true_and] at h; subst h
    obtain ⟨x, w', h1, h2, h3⟩ := buildSV_run he M hu
    have hp : (parts.map fun (i, x) => (i, a.eval x)) = (parts.toList.map fun p => (p.1, a.eval p.2)).toArray := by apply Array.ext'; simp
    unfold Oper.wp
    have hrun : (execOp a.eval ⟨dst, .buildSlice t n parts, type, pos, after, guard⟩).run P w = .ok (.value x) w' := by
      simp only [execOp, hp, Sem.run_bind, h1, Result.andThen_ok, Sem.run_pure]
    rw [hrun]
    exact hK _ x w' (M.grow_le w') (M.grow h2) h3 h2
  case extract x i =>
    split at h <;> try (simp at h; done)
    rename_i u hu
    simp only [Option.some.injEq, Prod.mk.injEq, true_and] at h; subst h
    obtain ⟨z, h1, h2⟩ := extractE_run (P := P) hu (he x) w
    exact fin z (by simp [execOp, h1]) h2
  case call c =>
    unfold callV at h
    split at h
    · rename_i b hb
      split at h <;> try (simp at h; done)
      · split at h <;> try (simp at h; done)
        rename_i t ht
        split at h <;> try (simp at h; done)
        rename_i x hx
        split at h <;> try (simp at h; done)
        rename_i u hu
        simp only [Option.some.injEq, Prod.mk.injEq, true_and] at h; subst h
        rw [lnth?_eq] at ht hx
        refine fin u ?_ (by simp [SV.rl])
        have h1 := lenE_run (ty := type) hu (he x) (by simpa using ht) (ys := c.args.map a.eval) (by simp at hx; simp [hx]) w
        simp [execOp, resolve, hb, invoke, builtin, h1]
      · split at h <;> try (simp at h; done)
        rename_i k p r hr
        split at h <;> try (simp at h; done)
        rename_i u hu
        simp only [Option.some.injEq, Prod.mk.injEq, true_and] at h; subst h
        have hl := evs_rl he c.args.toList
        rw [hr] at hl
        cases hm : c.args.toList.map a.eval with
        | nil => rw [hm] at hl; simp [SV.rls] at hl
        | cons y ys =>
          rw [hm] at hl
          simp only [SV.rls, SV.rl] at hl
          obtain ⟨rfl, hl⟩ := hl
          refine fin u ?_ (by simp [SV.rl])
          simp only [execOp, resolve, hb, invoke, builtin, Builtin.min_, Sem.run_bind, Sem.run_pure, Result.andThen_ok, Array.toList_map, hm, minF_run hu hl]
      · split at h <;> try (simp at h; done)
        rename_i k p r hr
        split at h <;> try (simp at h; done)
        rename_i u hu
        simp only [Option.some.injEq, Prod.mk.injEq, true_and] at h; subst h
        have hl := evs_rl he c.args.toList
        rw [hr] at hl
        cases hm : c.args.toList.map a.eval with
        | nil => rw [hm] at hl; simp [SV.rls] at hl
        | cons y ys =>
          rw [hm] at hl
          simp only [SV.rls, SV.rl] at hl
          obtain ⟨rfl, hl⟩ := hl
          refine fin u ?_ (by simp [SV.rl])
          simp only [execOp, resolve, hb, invoke, builtin, Builtin.max_, Sem.run_bind, Sem.run_pure, Result.andThen_ok, Array.toList_map, hm, maxF_run hu hl]
    · simp at h
    · split at h <;> try (simp at h; done)
      rename_i g as hc
      split at h <;> try (simp at h; done)
      rename_i F hF
      split at h <;> try (simp at h; done)
      rename_i ok r hr
      have h' := (bif_t0 h).2
      simp only [Option.some.injEq, Prod.mk.injEq] at h'
      obtain ⟨rfl, rfl⟩ := h'
      clear h
      have h := hr
      obtain ⟨xs, hxs, hrun⟩ := calleeOf_run he hc type w
      unfold Oper.wp
      show Oper.upon P _ a K Q ((do let d ← resolve a.eval c type; invoke d.target d.args : Sem Next).run P w)
      rcases hT g F hF with ⟨hfn, hcall⟩ | hcall
      · rw [hrun, enter_of hfn w]
        simp only [Oper.upon_enter]
        refine (hcall as r ρ xs w M.gl M.fz hxs h).mono ?_
        rintro e w' ⟨x, rfl, hb, hx⟩
        exact hK _ x w' (M.grow_le w') (M.grow hb) hx hb
      · obtain ⟨x, hr, hx⟩ := hcall as r ρ xs w hxs h
        rw [hrun, hr]
        exact hK ρ x w ρ.le_refl M hx (Below.refl _ _)

end
end
end Go.Wk


set_option autoImplicit false
set_option linter.unusedVariables false
set_option linter.unusedSimpArgs false
set_option linter.unnecessarySimpa false
namespace Go.Wk
open Go Go.RowKit

structure St where
  tmps : List SV
  blks : List (Option LB)
  saved : List (List SV)

def rlss (ρ : Rf) : List (List SV) → List (List Value) → Prop
  | [], [] => True
  | l :: r, x :: xs => SV.rls ρ l x ∧ rlss ρ r xs
  | [], _ :: _ => False
  | _ :: _, [] => False
def freeLL (k : Nat) : List (List SV) → Bool
  | [] => true
  | l :: r => SV.freeL k l && freeLL k r
theorem rlss_le {ρ ρ' : Rf} (hl : ρ.le ρ') : ∀ {l : List (List SV)} {xs : List (List Value)}, rlss ρ l xs → rlss ρ' l xs
  | [], [], _ => by simp [rlss]
  | l :: r', x :: xs, h => by
    simp only [rlss] at h ⊢
    exact ⟨rls_le hl l x h.1, rlss_le hl h.2⟩
  | [], _ :: _, h => by simp [rlss] at h
  | _ :: _, [], h => by simp [rlss] at h
theorem rlss_upd (ρ : Rf) (k r : Nat) : ∀ {l : List (List SV)} {xs : List (List Value)}, freeLL k l = true → rlss ρ l xs → rlss (upd ρ k r) l xs
  | [], [], _, _ => by simp [rlss]
  | l :: r', x :: xs, hf, h => by
    simp only [freeLL, Bool.and_eq_true] at hf
    simp only [rlss] at h ⊢
    exact ⟨rls_upd ρ k r l x hf.1 h.1, rlss_upd ρ k r hf.2 h.2⟩
  | [], _ :: _, _, h => by simp [rlss] at h
  | _ :: _, [], _, h => by simp [rlss] at h

structure SRel (G : Glob) (base : Bs) (ρ : Rf) (st : St) (a : Act) (sv : List (List Value)) (w : World) : Prop where
  tm : SV.rls ρ st.tmps a.tmps.toList
  df : a.defers = []
  svd : rlss ρ st.saved sv
  M : MRel G base ρ st.blks w

def putD (tm : List SV) (d : Option Tmp) (v : SV) : List SV := match d with
  | some d => setN tm d v
  | none => tm
theorem put_rl {ρ : Rf} {tm : List SV} {a : Act} {v : SV} {x : Value} (d : Option Tmp) (h : SV.rls ρ tm a.tmps.toList) (hv : SV.rl ρ v x) : SV.rls ρ (putD tm d v) (a.put d x).tmps.toList := by
  cases d with
  | none => exact h
  | some d => simpa [putD, Act.put] using rls_set d h hv
theorem put_df (a : Act) (d : Option Tmp) (x : Value) : (a.put d x).defers = a.defers := by cases d <;> rfl

def newV (k : Nat) (n : Option Nat) : SV := match n with
  | none => .ptr k 0
  | some n => .slc k 0 n
def isNone' : Option LB → Bool
  | none => true
  | some _ => false
def stNew (st : St) (dst : Option Tmp) (k : Nat) (cs : List SV) (el : TypeId) (n : Option Nat) : Option St :=
  bif SV.freeL k st.tmps && (freeLL k st.saved && (freeB k st.blks && (SV.freeL k cs && (isNone' (blk? st.blks k) && Nat.blt k st.blks.length)))) then
    some { tmps := putD st.tmps dst (newV k n), blks := setB st.blks k ⟨cs, el⟩, saved := st.saved }
  else none
def stPut (st : St) (dst : Option Tmp) (i p : Nat) (cs : List SV) : Option St :=
  match blk? st.blks i with
  | some b => bif Nat.ble (p + cs.length) b.cells.length then some { tmps := putD st.tmps dst (.val undef), blks := setB st.blks i ⟨splice b.cells p cs, b.elem⟩, saved := st.saved } else none
  | none => none

section
variable {P : Program} {G : Glob} {T : Tab} {base : Bs}

theorem SRel.val {ρ : Rf} {st : St} {a : Act} {sv : List (List Value)} {w w' : World} {v : SV} {x : Value} (S : SRel G base ρ st a sv w) (d : Option Tmp) (hv : SV.rl ρ v x) (hb : Below w.heap.size w w') :
    SRel G base ρ { st with tmps := putD st.tmps d v } (a.put d x) sv w' :=
  ⟨put_rl d S.tm hv, by rw [put_df]; exact S.df, S.svd, S.M.below hb⟩

theorem SRel.val2 {ρ ρ' : Rf} {st : St} {a : Act} {sv : List (List Value)} {w w' : World} {v : SV} {x : Value} (S : SRel G base ρ st a sv w) (d : Option Tmp) (hl : ρ.le ρ') (M : MRel G base ρ' st.blks w') (hv : SV.rl ρ' v x) :
    SRel G base ρ' { st with tmps := putD st.tmps d v } (a.put d x) sv w' :=
  ⟨put_rl d (rls_le hl _ _ S.tm) hv, by rw [put_df]; exact S.df, rlss_le hl S.svd, M⟩


theorem opN_wp {ρ : Rf} {st st' : St} {a : Act} {sv : List (List Value)} {w : World} {o : Oper} {k : Nat} {cs : List SV} {el : TypeId} {n : Option Nat} (S : SRel G base ρ st a sv w)
    (h : opN P (ev st.tmps) o = some (cs, el, n)) (hn : stNew st o.dst k cs el n = some st') {K : Act → World → Prop} {Q : Exit → Act → World → Prop}
    (hK : ∀ ρ' a' w', SRel G base ρ' st' a' sv w' → Kp base.kp w w' → K a' w') : o.wp P a w K Q := by
  have he := fun x => ev_rl S.tm x
  unfold stNew at hn
  cases hc : (SV.freeL k st.tmps && (freeLL k st.saved && (freeB k st.blks && (SV.freeL k cs && (isNone' (blk? st.blks k) && Nat.blt k st.blks.length))))) with
  | false => simp [hc] at hn
  | true =>
    simp only [hc, cond_true, Option.some.injEq] at hn
    simp only [Bool.and_eq_true] at hc
    obtain ⟨f1, f2, f3, f4, f5, f6⟩ := hc
    have hk : k < st.blks.length := by simpa [Nat.blt_eq] using f6
    have hnone : blk? st.blks k = none := by cases hb : blk? st.blks k <;> simp [hb, isNone'] at f5 ⊢
    have fin : ∀ (xs : List Value) (x : Value), SV.rls ρ cs xs → (execOp a.eval o).run P w = .ok (.value x) (w.alloc (.cells xs.toArray el)) →
        x = (match n with | none => .pointer (some ⟨w.heap.size, 0, none⟩) | some n => .slice (some ⟨w.heap.size, 0, none⟩) n n) → o.wp P a w K Q := by
      intro xs x hxs hrun hx
      unfold Oper.wp
      rw [hrun]
      refine hK (upd ρ k w.heap.size) _ _ ?_ (below_base (alloc_below w _) S.M.sz)
      subst hn
      refine ⟨?_, by rw [put_df]; exact S.df, rlss_upd ρ k _ f2 S.svd, S.M.new hk hnone f3 hxs f4⟩
      refine put_rl o.dst (rls_upd ρ k _ _ _ f1 S.tm) ?_
      subst hx
      cases n with
      | none => simp [newV, SV.rl, upd_same]
      | some n => simp only [newV, SV.rl]; exact ⟨_, n, rfl, Nat.le_refl _, .inr (by rw [upd_same])⟩
    obtain ⟨dst, op, type, pos, after, guard⟩ := o
    cases op <;> simp only [opN] at h <;> try (simp at h; done)
    case alloc t =>
      split at h <;> try (simp at h; done)
      rename_i z hz
      simp only [Option.some.injEq, Prod.mk.injEq] at h
      obtain ⟨rfl, rfl, rfl⟩ := h
      obtain ⟨v, h1, h2⟩ := run_zeroValue hz w
      refine fin z (.pointer (some ⟨w.heap.size, 0, none⟩)) (rls_vals z) ?_ rfl
      have : v.cells = z.toArray := by apply Array.ext'; simpa using h2
      simp [execOp, Instr.alloc, h1, newVar, newRow, this]
    case box t x =>
      split at h <;> try (simp at h; done)
      rename_i c hcs
      simp only [Option.some.injEq, Prod.mk.injEq] at h
      obtain ⟨rfl, rfl, rfl⟩ := h
      refine fin _ (.pointer (some ⟨w.heap.size, 0, none⟩)) (cellsOf_rl hcs (he x)) ?_ rfl
      simp [execOp, Instr.box, newVar, newRow]

theorem setRow_self (w : World) (g : Nat) (t : TypeId) (cur : Array Value) (hg : w.heap[g]? = some (.cells cur t (0, 0))) : w.setRow g cur = w := by
  have hlt : g < w.heap.size := (Array.getElem?_eq_some_iff.1 hg).1
  have hv : w.heap[g] = .cells cur t (0, 0) := (Array.getElem?_eq_some_iff.1 hg).2
  unfold World.setRow
  cases w with
  | mk heap tape drawn os output =>
    congr 1
    apply Array.ext
    · simp
    · intro k h1 h2
      simp only [Array.getElem_modify]
      split
      · rename_i hk; subst hk; simp at hv; simp [hv]
      · rfl
theorem run_storeCells_at (r p : Nat) (t : TypeId) : ∀ (vs : List Value) (i : Nat) (cur : Array Value) (w : World), w.heap[r]? = some (.cells cur t (0, 0)) → p + i + vs.length ≤ cur.size → (∀ v ∈ vs, v.oneCell' = true) →
    (storeCells ⟨r, p, none⟩ vs i).run P w = .ok () (w.setRow r (cur.toList.take (p + i) ++ (vs ++ cur.toList.drop (p + i + vs.length))).toArray)
  | [], i, cur, w, hg, hl, _ => by
    have : cur.toList.take (p + i) ++ ([] ++ cur.toList.drop (p + i + 0)) = cur.toList := by simp
    simp only [storeCells, List.length_nil]
    rw [this]
    simp [setRow_self w r t cur hg]
  | v :: rest, i, cur, w, hg, hl, h1 => by
    have hi : p + i < cur.size := by simp at hl; omega
    have hadd : (⟨r, p, none⟩ : Addr).add i = ⟨r, p + i, none⟩ := add_eq r p i
    have hcell : w.cell? ⟨r, p + i, none⟩ = some cur[p + i] := by simp [World.cell?, hg, hi]
    have hfro : w.frozen? ⟨r, p + i, none⟩ = false := by simp [World.frozen?, hg]
    have hst : (store ((⟨r, p, none⟩ : Addr).add i) v).run P w = .ok () (w.setRow r (cur.setIfInBounds (p + i) v)) := by
      rw [hadd, run_store P w _ v _ (h1 v (by simp)), hcell]
      simp [hfro, setCell_eq_setRow w r (p + i) cur t (0, 0) v hg]
    have ih := run_storeCells_at r p t rest (i + 1) (cur.setIfInBounds (p + i) v) (w.setRow r (cur.setIfInBounds (p + i) v)) (setRow_heap w r cur _ t _ hg) (by simp at hl ⊢; omega) (fun x hx => h1 x (by simp [hx]))
    simp only [storeCells, Sem.run_bind, hst, Result.andThen_ok, ih, setRow_setRow]
    congr 3
    apply List.ext_getElem?
    intro k
    simp only [Array.toList_setIfInBounds, List.getElem?_append, List.length_take, List.length_set, Array.length_toList, List.getElem?_take, List.getElem?_set, List.getElem?_drop, List.length_cons, List.getElem?_cons]
    simp only [List.length_cons] at hl
    by_cases hk : k < p + i
    · simp [hk, show k < min (p + (i + 1)) cur.size by omega, show min (p + i) cur.size = p + i by omega, show p + i ≠ k by omega, show k < p + (i + 1) by omega]
    · by_cases hk2 : k = p + i
      · subst hk2
        simp [show p + i < min (p + (i + 1)) cur.size by omega, show ¬ p + i < min (p + i) cur.size by omega, hi, show p + i - min (p + i) cur.size = 0 by omega, show p + i < p + (i + 1) by omega]
      · simp only [show ¬ k < min (p + (i + 1)) cur.size by omega, show ¬ k < min (p + i) cur.size by omega, if_false]
        rw [show min (p + (i + 1)) cur.size = p + (i + 1) by omega, show min (p + i) cur.size = p + i by omega]
        by_cases h3 : k - (p + (i + 1)) < rest.length
        · simp [h3, show k - (p + i) < rest.length + 1 by omega, show k - (p + i) ≠ 0 by omega, show k - (p + i) - 1 = k - (p + (i + 1)) by omega]
        · simp only [h3, if_false, show ¬ k - (p + i) < rest.length + 1 by omega]
          rw [if_neg (by omega)]
          congr 1
          omega

theorem opP_wp {ρ : Rf} {st st' : St} {a : Act} {sv : List (List Value)} {w : World} {o : Oper} {i p : Nat} {cs : List SV} (S : SRel G base ρ st a sv w)
    (h : opP P (ev st.tmps) o = some (i, p, cs)) (hn : stPut st o.dst i p cs = some st') {K : Act → World → Prop} {Q : Exit → Act → World → Prop}
    (hK : ∀ a' w', SRel G base ρ st' a' sv w' → Kp base.kp w w' → K a' w') : o.wp P a w K Q := by
  have he := fun x => ev_rl S.tm x
  unfold stPut at hn
  split at hn <;> try (simp at hn; done)
  rename_i b hb
  cases hle : Nat.ble (p + cs.length) b.cells.length with
  | false => simp [hle] at hn
  | true =>
    simp only [hle, cond_true, Option.some.injEq] at hn
    have hle' := Nat.le_of_ble_eq_true hle
    obtain ⟨dst, op, type, pos, after, guard⟩ := o
    cases op <;> simp only [opP] at h <;> try (simp at h; done)
    case store t x v =>
      split at h <;> try (simp at h; done)
      rename_i i' p' hx
      split at h <;> try (simp at h; done)
      rename_i c hc
      split at h <;> try (simp at h; done)
      rename_i n hs
      cases hq : (Nat.beq c.length n && ones c) with
      | false => simp [hq] at h
      | true =>
        simp only [hq, cond_true, Option.some.injEq, Prod.mk.injEq] at h
        obtain ⟨rfl, rfl, rfl⟩ := h
        simp only [Bool.and_eq_true] at hq
        have hn' := Nat.eq_of_beq_eq_true hq.1
        have hx1 := he x
        rw [hx] at hx1
        simp only [SV.rl] at hx1
        have hcr := cellsOf_rl hc (he v)
        have hone := ones_rls hq.2 hcr
        obtain ⟨xs, hh, hr, hbase⟩ := S.M.bk _ b hb
        have hl := rls_len hr
        have hl2 := rls_len hcr
        have hst : (storeCells ⟨ρ.blk i', p', none⟩ (a.eval v).cells.toList).run P w = .ok () (w.setRow (ρ.blk i') (xs.take p' ++ ((a.eval v).cells.toList ++ xs.drop (p' + (a.eval v).cells.toList.length))).toArray) := by
          have := run_storeCells_at (P := P) (ρ.blk i') p' b.elem (a.eval v).cells.toList 0 xs.toArray w hh (by simp; simp at hl2; omega) hone
          simpa using this
        have hsz : (a.eval v).cells.size = n := by rw [← hn', hl2]; simp
        unfold Oper.wp
        have hrun : (execOp a.eval ⟨dst, .store t x v, type, pos, after, guard⟩).run P w = .ok .skip (w.setRow (ρ.blk i') (xs.take p' ++ ((a.eval v).cells.toList ++ xs.drop (p' + (a.eval v).cells.toList.length))).toArray) := by
          simp [execOp, hx1, Instr.storeAt, Instr.sureAddr, storeVar, run_sizeOf hs, hsz, hst]
        rw [hrun]
        refine hK _ _ ?_ (setRow_below w (ρ.blk i') base _ hbase)
        subst hn
        exact ⟨put_rl dst S.tm (by simp [SV.rl]), by rw [put_df]; exact S.df, S.svd, S.M.put hb hh hr hcr⟩

end
end Go.Wk


set_option autoImplicit false
set_option linter.unusedVariables false
set_option linter.unusedSimpArgs false
set_option linter.unnecessarySimpa false
namespace Go.Wk
noncomputable section
open Go Go.RowKit

inductive Xt where
  | nrm
  | ext (id : Nat)
  | ret
def Xt.to : Xt → Exit
  | .nrm => .normal
  | .ext i => .exit i
  | .ret => .ret

inductive GD where
  | yes
  | no
  | test (t : Nat) (b : Bool) (want : Bool)
  | bad
def gd (ops : Array Oper) (tm : List SV) (o : Oper) : GD :=
  match o.guard with
  | none => .yes
  | some (j, want) => match lnth? ops.toList j with
    | none => .no
    | some oj => match oj.dst with
      | none => .no
      | some t => match nth tm t with
        | .val (.bool b) => .test t b want
        | .val (.tuple _) => .no
        | _ => .bad
def isNew (o : Oper) : Bool := match o.op with
  | .alloc _ => true
  | .box _ _ => true
  | _ => false
def news : List Oper → Nat
  | [] => 0
  | o :: r => bif isNew o then news r + 1 else news r
def inlineOf (T : Tab) (e : Operand → SV) (o : Oper) : Option (FuncId × List SV) := match o.op with
  | .call c => match calleeOf e c with
    | some (g, as) => match T g with
      | some _ => none
      | none => some (g, as)
    | none => none
  | _ => none
def resE1 (P : Program) (G : Glob) (st : St) : ResultVar → Option SV
  | .tmp t => some (nth st.tmps t)
  | .cell a t => loadE P G st.blks t (nth st.tmps a)
def resL (P : Program) (G : Glob) (st : St) : List ResultVar → Option (List SV)
  | [] => some []
  | r :: rs => match resE1 P G st r with
    | none => none
    | some v => match resL P G st rs with
      | none => none
      | some l => some (v :: l)
def resE (P : Program) (G : Glob) (fn : Func) (st : St) : Option SV := match resL P G st fn.results.toList with
  | none => none
  | some l => match l with
    | [v] => some v
    | l => some (mkTup l)
def undefs : Nat → List SV
  | 0 => []
  | n + 1 => .val undef :: undefs n

section
variable {R : Type} (P : Program) (G : Glob) (T : Tab)
def inl (rec : Code → St → (Xt → St → Option R) → Option R) (g : FuncId) (as : List SV) (dst : Option Tmp) (st : St) (kk : St → Option R) : Option R :=
  match P.funcs[g]? with
  | none => none
  | some fn => match fn.body with
    | none => none
    | some body => rec body { tmps := as ++ undefs (fn.ntmps - as.length), blks := st.blks, saved := st.tmps :: st.saved } fun e st' => match e with
      | .ext _ => none
      | _ => match st'.saved with
        | [] => none
        | tm :: sv => match resE P G fn st' with
          | none => none
          | some v => kk { tmps := putD tm dst v, blks := bif SV.und st.blks.length v then st'.blks.take st.blks.length else st'.blks, saved := sv }
def stepRun (rec : Code → St → (Xt → St → Option R) → Option R) (o : Oper) (n : Nat) (st : St) (kk : St → Option R) : Option R :=
  match inlineOf T (ev st.tmps) o with
  | some (g, as) => inl P G rec g as o.dst st kk
  | none => match opV P G T st.blks (ev st.tmps) o with
    | some (ok, v) => bif ok then kk { st with tmps := putD st.tmps o.dst v } else none
    | none => match opN P (ev st.tmps) o with
      | some (cs, el, ln) => match stNew st o.dst n cs el ln with
        | some st' => kk st'
        | none => none
      | none => match opP P (ev st.tmps) o with
        | some (i, p, cs) => match stPut st o.dst i p cs with
          | some st' => kk st'
          | none => none
        | none => none
def skipE (o : Oper) (st : St) : St := { st with tmps := putD st.tmps o.dst (.val undef) }
def lit (st : St) (t : Nat) (b : Bool) : St := { st with tmps := setN st.tmps t (.val (.bool b)) }
def litC (st : St) (c : Operand) (b : Bool) : St := match c with
  | .tmp t => lit st t b
  | _ => st
def stepE (rec : Code → St → (Xt → St → Option R) → Option R) (ops : Array Oper) (o : Oper) (n : Nat) (st : St) (kk : St → Option R) : Option R :=
  match gd ops st.tmps o with
  | .yes => stepRun P G T rec o n st kk
  | .no => kk (skipE o st)
  | .test t b want => bif b then (bif want then stepRun P G T rec o n (lit st t true) kk else kk (skipE o (lit st t true)))
      else (bif want then kk (skipE o (lit st t false)) else stepRun P G T rec o n (lit st t false) kk)
  | .bad => none
def exOps (rec : Code → St → (Xt → St → Option R) → Option R) (ops : Array Oper) : List Oper → Nat → St → (St → Option R) → Option R
  | [], _, st, k => k st
  | o :: os, n, st, k => stepE P G T rec ops o n st fun st' => exOps rec ops os (bif isNew o then n + 1 else n) st' k
end

/-! what is reckoned is laid out, so that it is reckoned once -/
def forceV {R : Type} (s : SV) (k : SV → R) : R := match s with
  | .val v => k (.val v)
  | .glob g o => k (.glob g o)
  | .ptr i o => k (.ptr i o)
  | .slc i o n => k (.slc i o n)
  | .fn f p c => k (.fn f p c)
  | .agg l => k (.agg l)
  | .tup l => k (.tup l)
  | .ifc t v => k (.ifc t v)
  | .unk => k .unk
  | .dl c xs => k (.dl c xs)
  | .ep c y o => k (.ep c y o)
  | .al i c xs => k (.al i c xs)
def forceL {R : Type} : List SV → (List SV → R) → R
  | [], k => k []
  | s :: r, k => forceV s fun s' => forceL r fun r' => k (s' :: r')
def forceB {R : Type} : List (Option LB) → (List (Option LB) → R) → R
  | [], k => k []
  | none :: r, k => forceB r fun r' => k (none :: r')
  | some b :: r, k => forceL b.cells fun c => forceB r fun r' => k (some ⟨c, b.elem⟩ :: r')
def forceS {R : Type} (st : St) (k : St → R) : R := forceL st.tmps fun t => forceB st.blks fun b => k ⟨t, b, st.saved⟩
theorem forceV_eq {R : Type} (s : SV) (k : SV → R) : forceV s k = k s := by cases s <;> rfl
theorem forceL_eq {R : Type} : ∀ (l : List SV) (k : List SV → R), forceL l k = k l
  | [], k => rfl
  | s :: r, k => by simp only [forceL, forceV_eq, forceL_eq r]
theorem forceB_eq {R : Type} : ∀ (l : List (Option LB)) (k : List (Option LB) → R), forceB l k = k l
  | [], k => rfl
  | none :: r, k => by simp only [forceB, forceB_eq r]
  | some b :: r, k => by simp only [forceB, forceL_eq, forceB_eq r]
theorem forceS_eq {R : Type} (st : St) (k : St → R) : forceS st k = k st := by simp only [forceS, forceL_eq, forceB_eq]
def nones : Nat → List (Option LB)
  | 0 => []
  | n + 1 => none :: nones n
theorem blk?_nones : ∀ (l : List (Option LB)) (n i : Nat) (b : LB), blk? (l ++ nones n) i = some b → blk? l i = some b
  | [], 0, i, b, h => by simpa [nones] using h
  | [], n + 1, 0, b, h => by simp [nones, blk?] at h
  | [], n + 1, i + 1, b, h => by
    simp only [nones, List.nil_append, blk?] at h
    have := blk?_nones [] n i b (by simpa using h)
    simp [blk?] at this
  | x :: l, n, 0, b, h => by simpa [blk?] using h
  | x :: l, n, i + 1, b, h => by simp only [List.cons_append, blk?] at h ⊢; exact blk?_nones l n i b h
theorem blk?_take : ∀ (l : List (Option LB)) (n i : Nat) (b : LB), blk? (l.take n) i = some b → blk? l i = some b
  | [], n, i, b, h => by simp [blk?] at h
  | x :: l, 0, i, b, h => by simp [blk?] at h
  | x :: l, n + 1, 0, b, h => by simpa [blk?] using h
  | x :: l, n + 1, i + 1, b, h => by simp only [List.take_succ_cons, blk?] at h ⊢; exact blk?_take l n i b h

/-- the state at a loop's head: what is not kept is forgotten -/
def memN (n : Nat) : List Nat → Bool
  | [] => false
  | x :: r => Nat.beq x n || memN n r
def keepT (l : List Nat) : Nat → List SV → List SV
  | _, [] => []
  | i, x :: r => (bif memN i l then x else .unk) :: keepT l (i + 1) r
/-- a loop that is known: from a state at its head, on -/
structure LSum where
  run : {R : Type} → St → (Xt → St → Option R) → Option R
structure Heads where
  heads : List (Nat × List Nat × Nat) := []
  merge : Bool := true
  sums : List (Nat × LSum) := []
  glue : Bool := false
  arr : Bool := false
def lookS : List (Nat × LSum) → Nat → Option LSum
  | [], _ => none
  | (k, v) :: r, n => bif Nat.beq k n then some v else lookS r n
def lookH : List (Nat × List Nat × Nat) → Nat → Option (List Nat × Nat)
  | [], _ => none
  | (k, v) :: r, n => bif Nat.beq k n then some v else lookH r n
def hd : Code → Nat
  | .region id _ _ => id
  | .seq a _ => hd a
  | .block _ b => hd b
  | .loop b => hd b
  | .scope b => hd b
  | _ => 1000000
def headT (H : Heads) (body : Code) (st : St) : St := match st.saved with
  | [] => match lookH H.heads (hd body) with
    | some (l, n) => { tmps := keepT l 0 st.tmps, blks := st.blks.take n, saved := [] }
    | none => st
  | _ :: _ => st

/-! soundness -/
def Good (P : Program) (G : Glob) (c : Code) (st : St) (H : Xt → St → Prop) : Prop :=
  ∀ (base : Bs) (ρ : Rf) (a : Act) (sv : List (List Value)) (w : World) (Q : Exit → Act → World → Prop), SRel G base ρ st a sv w →
    (∀ e st' ρ' a' w', H e st' → SRel G base ρ' st' a' sv w' → Kp base.kp w w' → Q e.to a' w') → c.wp P Q a w

section
variable {P : Program} {G : Glob} {T : Tab} {base : Bs} {R : Type}

theorem setN_nth : ∀ (l : List SV) (t : Nat) (v : SV), nth l t = v → (∀ w, v ≠ .val w ∨ w ≠ undef) → setN l t v = l
  | [], _, _, _, _ => rfl
  | x :: r, 0, v, h, _ => by simp only [nth] at h; subst h; rfl
  | x :: r, t + 1, v, h, hn => by simp only [nth] at h; simp only [setN, setN_nth r t v h hn]
theorem lit_same (st : St) (t : Nat) (b : Bool) (h : nth st.tmps t = .val (.bool b)) : lit st t b = st := by
  unfold lit
  rw [setN_nth st.tmps t _ h (fun w => by by_cases e : w = .bool b; · right; subst e; simp [undef]
                                          · left; intro h; exact e (by cases h; rfl))]

theorem gd_yes {ρ : Rf} {ops : Array Oper} {tm : List SV} {o : Oper} {a : Act} (h : gd ops tm o = .yes) : Region.wanted o (yielded ops a.tmps) = true := by
  unfold gd at h
  split at h
  · rename_i hg; simp [Region.wanted, hg]
  · repeat (split at h <;> try (simp at h; done))
theorem gd_no {ρ : Rf} {ops : Array Oper} {tm : List SV} {o : Oper} {a : Act} (ht : SV.rls ρ tm a.tmps.toList) (h : gd ops tm o = .no) : Region.wanted o (yielded ops a.tmps) = false := by
  unfold gd at h
  split at h
  · simp at h
  · rename_i j want hg
    rw [lnth?_eq] at h
    have hj : ops.toList[j]? = ops[j]? := by simp
    rw [hj] at h
    split at h
    · rename_i ho; simp [Region.wanted, hg, yielded, ho]
    · rename_i oj ho
      split at h
      · rename_i hd; simp [Region.wanted, hg, yielded, ho, hd]
      · rename_i t hd
        split at h <;> try (simp at h; done)
        rename_i vs hv
        have := rls_nth t ht
        rw [hv] at this
        simp only [SV.rl] at this
        have e : a.tmps.toList.getD t undef = (a.tmps[t]?).getD undef := by simp [List.getD_eq_getElem?_getD]
        rw [e] at this
        cases hq : a.tmps[t]? with
        | none => simp [Region.wanted, hg, yielded, ho, hd, hq]
        | some x => rw [hq] at this; simp at this; subst this; simp [Region.wanted, hg, yielded, ho, hd, hq]
theorem gd_test {ρ : Rf} {ops : Array Oper} {tm : List SV} {o : Oper} {a : Act} {t : Nat} {b want : Bool} (ht : SV.rls ρ tm a.tmps.toList) (h : gd ops tm o = .test t b want) :
    nth tm t = .val (.bool b) ∧ Region.wanted o (yielded ops a.tmps) = (b == want) := by
  unfold gd at h
  split at h
  · simp at h
  · rename_i j want' hg
    rw [lnth?_eq] at h
    have hj : ops.toList[j]? = ops[j]? := by simp
    rw [hj] at h
    split at h
    · simp at h
    · rename_i oj ho
      split at h
      · simp at h
      · rename_i t' hd
        split at h <;> try (simp at h; done)
        rename_i b' hv
        simp only [GD.test.injEq] at h
        obtain ⟨rfl, rfl, rfl⟩ := h
        refine ⟨hv, ?_⟩
        have := rls_nth t' ht
        rw [hv] at this
        simp only [SV.rl] at this
        have e : a.tmps.toList.getD t' undef = (a.tmps[t']?).getD undef := by simp [List.getD_eq_getElem?_getD]
        rw [e] at this
        cases hq : a.tmps[t']? with
        | none => rw [hq] at this; simp [undef] at this
        | some x => rw [hq] at this; simp at this; subst this; simp [Region.wanted, hg, yielded, ho, hd, hq]

theorem skipE_rel {ρ : Rf} {st : St} {a : Act} {sv : List (List Value)} {w : World} (S : SRel G base ρ st a sv w) (o : Oper) : SRel G base ρ (skipE o st) (a.put o.dst undef) sv w :=
  S.val o.dst (by simp [SV.rl]) (Below.refl _ _)

theorem SRel.tidy {ρ : Rf} {st : St} {a : Act} {sv : List (List Value)} {w : World} (S : SRel G base ρ st a sv w) {bl : List (Option LB)} (h : ∀ i b, blk? bl i = some b → blk? st.blks i = some b) :
    SRel G base ρ { st with blks := bl } a sv w := ⟨S.tm, S.df, S.svd, S.M.drop h⟩

theorem resL_run {ρ : Rf} {st : St} {a : Act} {sv : List (List Value)} {w : World} (S : SRel G base ρ st a sv w) : ∀ {rs : List ResultVar} {l : List SV}, resL P G st rs = some l →
    ∃ xs, (rs.mapM (m := Sem) fun | .tmp t => pure (a.tmps.getD t undef) | .cell p t => do loadVar t (← asAddr (a.tmps.getD p undef))).run P w = .ok xs w ∧ SV.rls ρ l xs
  | [], l, h => by simp only [resL, Option.some.injEq] at h; subst h; exact ⟨[], by simp, by simp [SV.rls]⟩
  | r :: rs, l, h => by
    simp only [resL] at h
    split at h <;> try (simp at h; done)
    rename_i v hv
    split at h <;> try (simp at h; done)
    rename_i l' hl
    simp only [Option.some.injEq] at h
    subst h
    obtain ⟨xs, hx, hxr⟩ := resL_run S hl
    cases r with
    | tmp t =>
      simp only [resE1, Option.some.injEq] at hv
      subst hv
      have h1 := ev_rl S.tm (.tmp t)
      refine ⟨a.tmps.getD t undef :: xs, ?_, by simp only [SV.rls]; exact ⟨h1, hxr⟩⟩
      simp only [List.mapM_cons, Sem.run_bind, Sem.run_pure, Result.andThen_ok, hx]
    | cell p t =>
      simp only [resE1] at hv
      have h1 := ev_rl S.tm (.tmp p)
      obtain ⟨ad, y, e1, e2, e3⟩ := loadE_run S.M hv h1
      refine ⟨y :: xs, ?_, by simp only [SV.rls]; exact ⟨e3, hxr⟩⟩
      have e1' : a.tmps.getD p undef = .pointer (some ad) := e1
      have e4 : (asAddr (a.tmps.getD p undef)).run P w = .ok ad w := by rw [e1']; rfl
      simp only [List.mapM_cons, Sem.run_bind, Sem.run_pure, Result.andThen_ok, hx, e4, e2]

theorem resE_run {ρ : Rf} {st : St} {a : Act} {sv : List (List Value)} {w : World} {fn : Func} {v : SV} (S : SRel G base ρ st a sv w) (h : resE P G fn st = some v) :
    ∃ x, (results fn a.tmps).run P w = .ok x w ∧ SV.rl ρ v x := by
  unfold resE at h
  split at h <;> try (simp at h; done)
  rename_i l hl
  obtain ⟨xs, hx, hxr⟩ := resL_run S hl
  have hm : (fn.results.mapM (m := Sem) fun | .tmp t => pure (a.tmps.getD t undef) | .cell p t => do loadVar t (← asAddr (a.tmps.getD p undef))).run P w = .ok xs.toArray w := by
    rw [← Array.toArray_toList (xs := fn.results), List.mapM_toArray, Sem.run_map, hx]; rfl
  split at h
  · simp only [Option.some.injEq] at h; subst h
    match xs, hxr, hm with
    | [x], hxr, hm =>
      simp only [SV.rls] at hxr
      refine ⟨x, ?_, hxr.1⟩
      unfold results
      rw [Sem.run_bind]
      exact (congrArg (fun r => Result.andThen r _) hm).trans rfl
    | [], hxr, _ => simp [SV.rls] at hxr
    | _ :: _ :: _, hxr, _ => simp [SV.rls] at hxr
  · rename_i hne
    simp only [Option.some.injEq] at h; subst h
    have hlen := rls_len hxr
    have h1 : xs.toArray.size ≠ 1 := by
      intro e
      simp at e
      rw [e] at hlen
      match l, hlen with
      | [v], _ => exact hne v rfl
    refine ⟨.tuple xs.toArray, ?_, mkTup_rl hxr⟩
    unfold results
    rw [Sem.run_bind]
    refine (congrArg (fun r => Result.andThen r _) hm).trans ?_
    simp only [Result.andThen_ok, dif_neg h1]
    rfl

def SoundL (P : Program) (G : Glob) (B : Code) (F : LSum) : Prop := ∀ (R : Type) (st : St) (k : Xt → St → Option R) (r : R), F.run st k = some r → Good P G (.loop B) st fun e s => k e s = some r
/-- each loop of a code that is listed as known is known rightly -/
def LoopsOK (P : Program) (G : Glob) (S : List (Nat × LSum)) : Code → Prop
  | .seq a b => LoopsOK P G S a ∧ LoopsOK P G S b
  | .cond _ a b => LoopsOK P G S a ∧ LoopsOK P G S b
  | .block _ b => LoopsOK P G S b
  | .scope b => LoopsOK P G S b
  | .loop b => (∀ F, lookS S (hd b) = some F → SoundL P G b F) ∧ LoopsOK P G S b
  | _ => True
def RecOK (P : Program) (G : Glob) (S : List (Nat × LSum)) (rec : Code → St → (Xt → St → Option R) → Option R) : Prop :=
  ∀ c st k r, (st.saved = [] → LoopsOK P G S c) → rec c st k = some r → Good P G c st fun e st' => k e st' = some r

theorem undefs_rls (ρ : Rf) : ∀ n, SV.rls ρ (undefs n) (List.replicate n undef)
  | 0 => by simp [undefs, SV.rls]
  | n + 1 => by simp only [undefs, List.replicate_succ, SV.rls, SV.rl]; exact ⟨trivial, undefs_rls ρ n⟩

/-- no function of the program is the one that is answered by the model itself -/
def NoCount (P : Program) : Prop := ∀ (g : Nat) (fn : Func), P.funcs[g]? = some fn → (fn.name == "runtime.NumGoroutine") = false

theorem inl_wp {rec : Code → St → (Xt → St → Option R) → Option R} {S0 : List (Nat × LSum)} (hN : NoCount P) (hr : RecOK P G S0 rec) {ρ : Rf} {st : St} {a : Act} {sv : List (List Value)} {w : World} (S : SRel G base ρ st a sv w)
    {o : Oper} {g : FuncId} {as : List SV} {kk : St → Option R} {r : R} (hi : inlineOf T (ev st.tmps) o = some (g, as)) (h : inl P G rec g as o.dst st kk = some r) {K : Act → World → Prop} {Q : Exit → Act → World → Prop}
    (hK : ∀ st' ρ' a' w', kk st' = some r → SRel G base ρ' st' a' sv w' → Kp base.kp w w' → K a' w') : o.wp P a w K Q := by
  unfold inl at h
  split at h <;> try (simp at h; done)
  rename_i fn hfn
  split at h <;> try (simp at h; done)
  rename_i body hb
  unfold inlineOf at hi
  split at hi <;> try (simp at hi; done)
  rename_i c hop
  split at hi <;> try (simp at hi; done)
  rename_i g' as' hc
  split at hi <;> try (simp at hi; done)
  simp only [Option.some.injEq, Prod.mk.injEq] at hi
  obtain ⟨rfl, rfl⟩ := hi
  obtain ⟨xs, hxs, hrun⟩ := calleeOf_rl (P := P) (fun x => ev_rl S.tm x) hc o.type ⟨fn, hfn, hN _ _ hfn, by simp [hb]⟩ w
  unfold Oper.wp
  have hrun' : (execOp a.eval o).run P w = .ok (.enter g' xs.toArray) w := by rw [← hrun]; unfold execOp; rw [hop]
  rw [hrun']
  simp only [Oper.upon_enter]
  have hG := hr _ _ _ _ (fun h0 => by simp at h0) h
  refine calls_of_wp hfn hb (hG base ρ _ (a.tmps.toList :: sv) w _ ⟨?_, rfl, ?_, S.M⟩ ?_)
  · have hl := rls_len hxs
    simp only [Array.toList_append, Array.toList_replicate]
    rw [hl]
    simpa using rls_append hxs (undefs_rls ρ (fn.ntmps - xs.length))
  · simp only [rlss]; exact ⟨S.tm, S.svd⟩
  · intro e st' ρ' a' w' hk S' hB
    have go : ∀ (h : (match st'.saved with
          | [] => none
          | tm :: sv => match resE P G fn st' with
            | none => none
            | some v => kk { tmps := putD tm o.dst v, blks := bif SV.und st.blks.length v then st'.blks.take st.blks.length else st'.blks, saved := sv } : Option R) = some r),
        a'.defers = [] ∧ ∃ v, (results fn a'.tmps).run P w' = .ok v w' ∧ K (a.put o.dst v) w' := by
      intro h
      refine ⟨S'.df, ?_⟩
      have hs := S'.svd
      split at h <;> try (simp at h; done)
      rename_i tm sv0 hsv
      rw [hsv] at hs
      simp only [rlss] at hs
      split at h <;> try (simp at h; done)
      rename_i v hv
      obtain ⟨x, hx, hxr⟩ := resE_run S' hv
      refine ⟨x, hx, hK _ ρ' _ _ h ⟨put_rl o.dst hs.1 hxr, by rw [put_df]; exact S.df, hs.2, ?_⟩ hB⟩
      simp only
      cases SV.und st.blks.length v with
      | true => exact S'.M.drop (fun i b hb => blk?_take _ _ i b hb)
      | false => exact S'.M
    cases e with
    | nrm => exact go hk
    | ret => exact go hk
    | ext i => simp at hk

theorem stepRun_wp {rec : Code → St → (Xt → St → Option R) → Option R} {S0 : List (Nat × LSum)} (hN : NoCount P) (hT : TabOK P G T) (hr : RecOK P G S0 rec) {ρ : Rf} {st : St} {a : Act} {sv : List (List Value)} {w : World} (S : SRel G base ρ st a sv w)
    {o : Oper} {n : Nat} {kk : St → Option R} {r : R} (h : stepRun P G T rec o n st kk = some r) {K : Act → World → Prop} {Q : Exit → Act → World → Prop}
    (hK : ∀ st' ρ' a' w', kk st' = some r → SRel G base ρ' st' a' sv w' → Kp base.kp w w' → K a' w') : o.wp P a w K Q := by
  unfold stepRun at h
  split at h
  · rename_i g as hi
    exact inl_wp hN hr S hi h hK
  · split at h
    · rename_i ok v hv
      cases ok with
      | false => simp at h
      | true =>
        simp only [cond_true] at h
        exact opV_wp hT (fun x => ev_rl S.tm x) S.M hv fun ρ' x w' hl M' hx hb => hK _ ρ' _ _ h (S.val2 o.dst hl M' hx) (below_base hb S.M.sz)
    · split at h
      · rename_i cs el ln hn
        split at h <;> try (simp at h; done)
        rename_i st' hst
        exact opN_wp S hn hst fun ρ' a' w' S' hb => hK _ ρ' _ _ h S' hb
      · split at h <;> try (simp at h; done)
        rename_i i p cs hp
        split at h <;> try (simp at h; done)
        rename_i st' hst
        exact opP_wp S hp hst fun a' w' S' hb => hK _ ρ _ _ h S' hb

theorem exOps_wp {rec : Code → St → (Xt → St → Option R) → Option R} {S0 : List (Nat × LSum)} (hN : NoCount P) (hT : TabOK P G T) (hr : RecOK P G S0 rec) {ops : Array Oper} {k : St → Option R} {r : R} {sv : List (List Value)} {Q : Exit → Act → World → Prop} :
    ∀ (os : List Oper) (n : Nat) (st : St) (ρ : Rf) (a : Act) (w : World), SRel G base ρ st a sv w → exOps P G T rec ops os n st k = some r →
    (∀ st' ρ' a' w', k st' = some r → SRel G base ρ' st' a' sv w' → Kp base.kp w w' → Q .normal a' w') → wpList P ops Q os a w
  | [], n, st, ρ, a, w, S, h, hQ => hQ _ ρ _ _ h S (Kp.refl _ _)
  | o :: os, n, st, ρ, a, w, S, h, hQ => by
    simp only [exOps] at h
    have next : ∀ st' ρ' a' w', exOps P G T rec ops os (bif isNew o then n + 1 else n) st' k = some r → SRel G base ρ' st' a' sv w' → Kp base.kp w w' → wpList P ops Q os a' w' :=
      fun st' ρ' a' w' hk S' hb => exOps_wp hN hT hr os _ st' ρ' a' w' S' hk fun st'' ρ'' a'' w'' h1 h2 h3 => hQ st'' ρ'' a'' w'' h1 h2 (hb.trans h3)
    simp only [wpList]
    unfold stepE at h
    split at h
    · rename_i hg
      rw [if_pos (gd_yes (ρ := ρ) hg)]
      exact .inl (stepRun_wp hN hT hr S h next)
    · rename_i hg
      have := gd_no S.tm hg
      rw [this]
      simp only [Bool.false_eq_true, if_false]
      exact next _ ρ _ _ h (skipE_rel S o) (Kp.refl _ _)
    · rename_i t b want hg
      obtain ⟨hv, hw⟩ := gd_test S.tm hg
      rw [hw]
      cases b <;> cases want <;> simp only [cond_true, cond_false, lit_same st t _ hv] at h <;> simp
      · exact .inl (stepRun_wp hN hT hr S h next)
      · exact next _ ρ _ _ h (skipE_rel S o) (Kp.refl _ _)
      · exact next _ ρ _ _ h (skipE_rel S o) (Kp.refl _ _)
      · exact .inl (stepRun_wp hN hT hr S h next)
    · simp at h

theorem keepT_rls {ρ : Rf} (l : List Nat) : ∀ (i : Nat) {tm : List SV} {xs : List Value}, SV.rls ρ tm xs → SV.rls ρ (keepT l i tm) xs
  | _, [], [], h => by simp [keepT, SV.rls]
  | i, s :: tm, x :: xs, h => by
    simp only [SV.rls] at h
    simp only [keepT, SV.rls]
    refine ⟨?_, keepT_rls l (i + 1) h.2⟩
    cases memN i l with
    | true => exact h.1
    | false => simp [SV.rl]
  | _, [], _ :: _, h => by simp [SV.rls] at h
  | _, _ :: _, [], h => by simp [SV.rls] at h
theorem headT_rel {H : Heads} {body : Code} {ρ : Rf} {st : St} {a : Act} {sv : List (List Value)} {w : World} (S : SRel G base ρ st a sv w) : SRel G base ρ (headT H body st) a sv w := by
  unfold headT
  split
  · rename_i hs
    split
    · rename_i l n _
      have := S.svd
      rw [hs] at this
      exact ⟨keepT_rls l 0 S.tm, S.df, this, S.M.drop (fun i b hb => blk?_take _ _ i b hb)⟩
    · exact S
  · exact S

end
end
end Go.Wk

