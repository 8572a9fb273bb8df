/- The walk by evaluation, part C: the operations on numbers, addresses and slices. Conditions: none. -/
import Derived.Test.YtbbplkdjcgdaaaaDoorWkB
set_option autoImplicit false
set_option linter.unusedVariables false
set_option linter.unusedSimpArgs false
set_option linter.unnecessarySimpa false
namespace Go.Wk
open Go Go.RowKit

def binInt (op : BinOp) (k : IntKind) (a b : Int) : Option (Bool × Value) :=
  match op with
  | .add => some (true, .int k (k.wrap (a + b)))
  | .sub => some (true, .int k (k.wrap (a - b)))
  | .mul => some (true, .int k (k.wrap (a * b)))
  | .quo => some (!(decide (b = 0)), .int k (k.wrap (a.tdiv b)))
  | .rem => some (!(decide (b = 0)), .int k (a.tmod b))
  | .and => some (true, .int k (k.wrap (BitVec.ofInt k.bits a &&& BitVec.ofInt k.bits b).toNat))
  | .or => some (true, .int k (k.wrap (BitVec.ofInt k.bits a ||| BitVec.ofInt k.bits b).toNat))
  | .xor => some (true, .int k (k.wrap (BitVec.ofInt k.bits a ^^^ BitVec.ofInt k.bits b).toNat))
  | .andNot => some (true, .int k (k.wrap (BitVec.ofInt k.bits a &&& ~~~(BitVec.ofInt k.bits b)).toNat))
  | .eql => some (true, .bool (a == b))
  | .neq => some (true, .bool (a != b))
  | .lss => some (true, .bool (decide (a < b)))
  | .leq => some (true, .bool (decide (a ≤ b)))
  | .gtr => some (true, .bool (decide (a > b)))
  | .geq => some (true, .bool (decide (a ≥ b)))
  | _ => none
def shiftE (op : BinOp) (k : IntKind) (a b : Int) : Option (Bool × Value) :=
  match op with
  | .shl => some (!(decide (b < 0)), .int k (k.wrap (a * 2 ^ (min b.toNat k.bits))))
  | .shr => some (!(decide (b < 0)), .int k (a.fdiv (2 ^ (min b.toNat k.bits))))
  | _ => none
def binStr (op : BinOp) (a b : ByteArray) : Option (Bool × Value) :=
  match op with
  | .eql => some (true, .bool (a.toList == b.toList))
  | .neq => some (true, .bool (!(a.toList == b.toList)))
  | .lss => some (true, .bool (Op.bytesLess a.toList b.toList))
  | .add => some (!(decide (((a.size + b.size : Nat) : Int) > 9223372036854775807)), .string (a ++ b))
  | _ => none

def partV (P : Program) (t : TypeId) (cs : Array Value) (off : Nat) : Option Value :=
  match agK P t with
  | some true => match szOf P t with
    | some sz => some (.agg (cs.extract off (off + sz)))
    | none => none
  | some false => cs[off]?
  | none => none
def eqFs (P : Program) (rec : TypeId → Value → Value → Option Bool) (xs ys : Array Value) : List Field → Option Bool
  | [] => some true
  | f :: r => bif f.name == "_" then eqFs P rec xs ys r else
    match partV P f.type xs f.offset with
    | none => none
    | some a => match partV P f.type ys f.offset with
      | none => none
      | some b => match rec f.type a b with
        | none => none
        | some e => match eqFs P rec xs ys r with
          | none => none
          | some e' => some (e && e')
def eqE (P : Program) : Nat → TypeId → Value → Value → Option Bool
  | 0, _, _, _ => none
  | d + 1, t, x, y =>
    match P.underlying t with
    | some .bool => match x with
      | .bool a => match y with
        | .bool b => some (a == b)
        | _ => none
      | _ => none
    | some (.int _) => match x with
      | .int k a => match y with
        | .int k' b => if k = k' then some (a == b) else none
        | _ => none
      | _ => none
    | some .string => match x with
      | .string a => match y with
        | .string b => some (a == b)
        | _ => none
      | _ => none
    | some (.struct fields) => match x with
      | .agg xs => match y with
        | .agg ys => bif P.stoodInHeld t then none else eqFs P (eqE P d) xs ys fields.toList
        | _ => none
      | _ => none
    | some (.interface _) => match x, y with
      | .nilIface, .nilIface => some true
      | .nilIface, .iface _ _ => some false
      | .iface _ _, .nilIface => some false
      | _, _ => none
    | some (.func _ _ _) => match x, y with
      | .nilFunc, .nilFunc => some true
      | .nilFunc, .func _ _ _ => some false
      | .func _ _ _, .nilFunc => some false
      | _, _ => none
    | some (.slice _) => match x, y with
      | .slice none _ _, .slice b _ _ => some b.isNone
      | .slice (some _) _ _, .slice none _ _ => some false
      | _, _ => none
    | some (.pointer _) => match x, y with
      | .pointer none, .pointer b => some b.isNone
      | .pointer (some _), .pointer none => some false
      | _, _ => none
    | _ => none

theorem partV_run {P : Program} {t : TypeId} {cs : Array Value} {off : Nat} {v : Value} (h : partV P t cs off = some v) (w : World) : (part t cs off).run P w = .ok v w := by
  unfold partV at h
  split at h
  · rename_i ha
    split at h
    · rename_i sz hs
      simp only [Option.some.injEq] at h; subst h
      simp [part, run_isAgg ha, run_sizeOf hs]
    · simp at h
  · rename_i ha
    simp [part, run_isAgg ha, h]
  · simp at h

theorem eqFs_run {P : Program} {rec : TypeId → Value → Value → Option Bool} {eqm : TypeId → Value → Value → Sem Bool} {w : World}
    (hrec : ∀ t x y b, rec t x y = some b → (eqm t x y).run P w = .ok b w) {xs ys : Array Value} : ∀ (fs : List Field) {b : Bool}, eqFs P rec xs ys fs = some b →
    (forIn (m := Sem) fs (none, PUnit.unit) fun f (_ : Option Bool × PUnit) => (do
        if f.name ≠ "_" then
          if !(← eqm f.type (← part f.type xs f.offset) (← part f.type ys f.offset)) then pure (ForInStep.done (some false, PUnit.unit))
          else pure (ForInStep.yield (none, PUnit.unit))
        else pure (ForInStep.yield (none, PUnit.unit)) : Sem (ForInStep (Option Bool × PUnit)))).run P w = .ok (if b then (none, PUnit.unit) else (some false, PUnit.unit)) w
  | [], b, h => by simp only [eqFs, Option.some.injEq] at h; subst h; simp
  | f :: r, b, h => by
    simp only [eqFs] at h
    by_cases hn : f.name = "_"
    · simp only [hn, beq_self_eq_true, cond_true] at h
      have ih := eqFs_run hrec r h
      simp only [List.forIn_cons, hn, ne_eq, not_true_eq_false, if_false, pure_bind]
      exact ih
    · have hb : (f.name == "_") = false := by simpa using hn
      simp only [hb, cond_false] at h
      split at h
      · simp at h
      · rename_i a ha
        split at h
        · simp at h
        · rename_i c hc
          split at h
          · simp at h
          · rename_i e he
            split at h
            · simp at h
            · rename_i e' he'
              simp only [Option.some.injEq] at h
              subst h
              have h1 := hrec _ _ _ _ he
              have ih := eqFs_run hrec r he'
              simp only [List.forIn_cons, ne_eq, hn, not_false_eq_true, if_true, Sem.run_bind, partV_run ha, partV_run hc, Result.andThen_ok, h1]
              cases e with
              | true => simp only [Bool.not_true, Bool.false_eq_true, if_false, Sem.run_pure, Result.andThen_ok, ih, Bool.true_and]
              | false => simp

theorem eqE_run {P : Program} {w : World} : ∀ (d : Nat) (t : TypeId) (x y : Value) (b : Bool), eqE P d t x y = some b → ∀ n, d ≤ n → (Op.equalIn n t x y).run P w = .ok b w := by
  intro d
  induction d with
  | zero => intro t x y b h; simp [eqE] at h
  | succ d ih =>
    intro t x y b h n hn
    obtain ⟨m, rfl⟩ : ∃ m, n = m + 1 := ⟨n - 1, by omega⟩
    have hm : d ≤ m := by omega
    simp only [eqE] at h
    split at h
    · rename_i hu
      split at h <;> try (simp at h; done)
      split at h <;> try (simp at h; done)
      simp only [Option.some.injEq] at h; subst h
      simp [Op.equalIn, run_underlying hu]
    · rename_i k hu
      split at h <;> try (simp at h; done)
      split at h <;> try (simp at h; done)
      split at h <;> try (simp at h; done)
      rename_i hk
      simp only [Option.some.injEq] at h; subst h
      simp [Op.equalIn, run_underlying hu, hk]
    · rename_i hu
      split at h <;> try (simp at h; done)
      split at h <;> try (simp at h; done)
      simp only [Option.some.injEq] at h; subst h
      simp [Op.equalIn, run_underlying hu]
    · rename_i fields hu
      split at h <;> try (simp at h; done)
      split at h <;> try (simp at h; done)
      rename_i _ _ xs _ ys
      cases hs : P.stoodInHeld t with
      | true => simp [hs] at h
      | false =>
        simp only [hs, cond_false] at h
        have key := eqFs_run (P := P) (w := w) (eqm := fun t x y => Op.equalIn m t x y) (fun t x y b h => ih t x y b h m hm) fields.toList h
        simp only [Op.equalIn, Sem.run_bind, run_underlying hu, Result.andThen_ok, run_program, hs, Bool.false_eq_true, if_false, pure_bind]
        rw [← Array.forIn_toList]
        refine (congrArg (fun r => Result.andThen r _) key).trans ?_
        cases b <;> rfl
    · rename_i hu
      split at h <;> simp only [Option.some.injEq, reduceCtorEq] at h <;> first | (subst h; simp [Op.equalIn, run_underlying hu]; done) | simp at h
    · rename_i hu
      split at h <;> simp only [Option.some.injEq, reduceCtorEq] at h <;> first | (subst h; simp [Op.equalIn, run_underlying hu]; done) | simp at h
    · rename_i hu
      split at h <;> simp only [Option.some.injEq, reduceCtorEq] at h <;> first | (subst h; simp [Op.equalIn, run_underlying hu]; done) | simp at h
    · rename_i hu
      split at h <;> simp only [Option.some.injEq, reduceCtorEq] at h <;> first | (subst h; simp [Op.equalIn, run_underlying hu]; done) | simp at h
    · simp at h

end Go.Wk
