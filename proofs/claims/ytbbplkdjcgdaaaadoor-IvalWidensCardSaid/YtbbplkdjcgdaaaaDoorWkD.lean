/- The walk by evaluation, part D: every operation, and that it does in memory what it does here. Conditions: none. -/
import Derived.Test.YtbbplkdjcgdaaaaDoorWkC
set_option autoImplicit false
set_option linter.unusedVariables false
set_option linter.unusedSimpArgs false
set_option linter.unnecessarySimpa false
namespace Go.Wk
open Go Go.RowKit

def isC : Operand → Bool
  | .const _ => true
  | _ => false
def guardOk (P : Program) (t : TypeId) (x y : Operand) (a b : Value) : Bool := match a with
  | .nilIface => match b with
    | .nilIface => isC x || isC y
    | _ => true
  | .agg _ => match b with
    | .agg _ => !(P.eqGuardType P.depth t)
    | _ => true
  | _ => true
def binE (P : Program) (op : BinOp) (t : TypeId) (x y : Operand) (a b : Value) : Option (Bool × Value) :=
  match a, b with
  | .int k m, .int k' n => match op with
    | .shl => shiftE .shl k m n
    | .shr => shiftE .shr k m n
    | op => if k = k' then binInt op k m n else none
  | .string s, .string s' => binStr op s s'
  | .float _ _, .float _ _ => none
  | .complex _ _ _, .complex _ _ _ => none
  | a, b => bif guardOk P t x y a b then (match op with
    | .eql => match eqE P 12 t a b with
      | some e => some (true, .bool e)
      | none => none
    | .neq => match eqE P 12 t a b with
      | some e => some (true, .bool (!e))
      | none => none
    | _ => none) else none

theorem binInt_run {P : Program} {op : BinOp} {t : TypeId} {k : IntKind} {a b : Int} {v : Value} {w : World} (h1 : op ≠ .shl) (h2 : op ≠ .shr) (h : binInt op k a b = some (true, v)) :
    (binOp op t (.int k a) (.int k b)).run P w = .ok v w := by
  cases op <;> simp only [binInt, Option.some.injEq, Prod.mk.injEq, reduceCtorEq, Bool.not_eq_true', decide_eq_false_iff_not] at h <;>
    first
    | (obtain ⟨_, rfl⟩ := h; simp_all [binOp, Op.intArith, Op.intDiv, Op.intBits, Op.intCmp]; done)
    | simp at h1
    | simp at h2
theorem shiftE_run {P : Program} {op : BinOp} {t : TypeId} {k k' : IntKind} {a b : Int} {v : Value} {w : World} (h : shiftE op k a b = some (true, v)) :
    (binOp op t (.int k a) (.int k' b)).run P w = .ok v w := by
  cases op <;> simp only [shiftE, Option.some.injEq, Prod.mk.injEq, reduceCtorEq, Bool.not_eq_true', decide_eq_false_iff_not] at h
  all_goals
    obtain ⟨hb, rfl⟩ := h
    simp [binOp, Op.shift, hb]
theorem binStr_run {P : Program} {op : BinOp} {t : TypeId} {a b : ByteArray} {v : Value} {w : World} (h : binStr op a b = some (true, v)) :
    (binOp op t (.string a) (.string b)).run P w = .ok v w := by
  cases op <;> simp only [binStr, Option.some.injEq, Prod.mk.injEq, reduceCtorEq, true_and, Bool.not_eq_true', decide_eq_false_iff_not] at h
  all_goals first
    | (subst h; simp [binOp, Op.stringOp]; done)
    | (obtain ⟨h, rfl⟩ := h; simp only [binOp, Op.stringOp, IntKind.max_i64]; rw [if_neg h]; rfl)

theorem guardOk_run {P : Program} {op : BinOp} {t : TypeId} {x y : Operand} {a b : Value} {w : World} (h : guardOk P t x y a b = true) : (eqGuard op t x y a b).run P w = .ok () w := by
  by_cases hop : op = .eql ∨ op = .neq
  · have h0 : (!(op matches .eql | .neq)) = false := by rcases hop with rfl | rfl <;> rfl
    unfold guardOk at h
    cases a
    case nilIface =>
      cases b
      case nilIface =>
        simp only [Bool.or_eq_true] at h
        rcases h with h | h
        · cases x <;> simp [isC] at h; rcases hop with rfl | rfl <;> rfl
        · cases y <;> simp [isC] at h; rcases hop with rfl | rfl <;> cases x <;> rfl
      all_goals (rcases hop with rfl | rfl <;> rfl)
    case agg l =>
      cases b
      case agg m =>
        simp only [Bool.not_eq_true'] at h
        rcases hop with rfl | rfl <;> simp [eqGuard, h]
      all_goals (rcases hop with rfl | rfl <;> rfl)
    all_goals (rcases hop with rfl | rfl <;> rfl)
  · cases op <;> first | (exfalso; simp at hop; done) | simp [eqGuard]

def sameNum : Value → Value → Bool
  | .int _ _, .int _ _ => true
  | .float _ _, .float _ _ => true
  | .complex _ _ _, .complex _ _ _ => true
  | .string _, .string _ => true
  | _, _ => false
theorem binOp_eq {t : TypeId} {a b : Value} (h : sameNum a b = false) : binOp .eql t a b = (do pure (.bool (← Op.equal t a b))) := by
  cases a <;> cases b <;> first | rfl | (simp [sameNum] at h; done)
theorem binOp_ne {t : TypeId} {a b : Value} (h : sameNum a b = false) : binOp .neq t a b = (do pure (.bool (!(← Op.equal t a b)))) := by
  cases a <;> cases b <;> first | rfl | (simp [sameNum] at h; done)

theorem binE_run {P : Program} {op : BinOp} {t : TypeId} {x y : Operand} {a b : Value} {v : Value} (h : binE P op t x y a b = some (true, v)) (w : World) :
    (do eqGuard op t x y a b; binOp op t a b : Sem Value).run P w = .ok v w := by
  unfold binE at h
  split at h
  · rename_i k m k' n
    simp only [eqGuard_at_int, Sem.run_bind, Sem.run_pure, Result.andThen_ok]
    split at h
    · exact shiftE_run h
    · exact shiftE_run h
    · rename_i h1 h2
      split at h
      · rename_i hk; subst hk; exact binInt_run h1 h2 h
      · simp at h
  · simp only [eqGuard_at_string, Sem.run_bind, Sem.run_pure, Result.andThen_ok]
    exact binStr_run h
  · simp at h
  · simp at h
  · rename_i n1 n2 n3 n4
    have hs : sameNum a b = false := by
      cases a <;> cases b <;> first | rfl | (exfalso; exact n1 _ _ _ _ rfl rfl) | (exfalso; exact n2 _ _ rfl rfl) | (exfalso; exact n3 _ _ _ _ rfl rfl) | (exfalso; exact n4 _ _ _ _ _ _ rfl rfl)
    cases hg : guardOk P t x y a b with
    | false => simp [hg] at h
    | true =>
      simp only [hg, cond_true] at h
      simp only [Sem.run_bind, guardOk_run hg, Result.andThen_ok]
      have key : ∀ e, eqE P 12 t a b = some e → (Op.equal t a b).run P w = .ok e w := fun e he => eqE_run 12 t a b e he _ (by unfold Op.maxDepth; omega)
      split at h
      · split at h
        · rename_i e he
          simp only [Option.some.injEq, Prod.mk.injEq, true_and] at h
          subst h
          rw [binOp_eq hs]
          simp [key e he]
        · simp at h
      · split at h
        · rename_i e he
          simp only [Option.some.injEq, Prod.mk.injEq, true_and] at h
          subst h
          rw [binOp_ne hs]
          simp [key e he]
        · simp at h
      · simp at h

def unE (op : UnOp) (v : Value) : Option Value :=
  match op with
  | .neg => match v with
    | .int k n => some (.int k (k.wrap (0 - n)))
    | _ => none
  | .not => match v with
    | .bool b => some (.bool (!b))
    | _ => none
  | .xor => match v with
    | .int k n => some (.int k (k.wrap (BitVec.ofInt k.bits (if k.signed then -1 else k.max) ^^^ BitVec.ofInt k.bits n).toNat))
    | _ => none
  | _ => none
theorem unE_run {P : Program} {op : UnOp} {v r : Value} (h : unE op v = some r) (w : World) : (Op.unary op v).run P w = .ok r w := by
  unfold unE at h
  split at h
  · split at h <;> simp only [Option.some.injEq, reduceCtorEq] at h; subst h; simp [Op.unary, Op.intArith]
  · split at h <;> simp only [Option.some.injEq, reduceCtorEq] at h; subst h; simp [Op.unary]
  · split at h <;> simp only [Option.some.injEq, reduceCtorEq] at h; subst h; simp [Op.unary, Op.intBits]
  · simp at h

def convE (P : Program) (src dst : TypeId) (v : Value) : Option Value :=
  match P.underlying src with
  | none => none
  | some _ => match P.underlying dst with
    | some (.int k) => match v with
      | .int _ n => some (.int k (k.wrap n))
      | _ => none
    | some .string => match v with
      | .string s => some (.string s)
      | _ => none
    | _ => none
theorem convE_run {P : Program} {src dst : TypeId} {v r : Value} (h : convE P src dst v = some r) (w : World) : (convert src dst v).run P w = .ok r w := by
  unfold convE at h
  split at h
  · simp at h
  · rename_i d hd
    split at h
    · rename_i k hk
      split at h <;> simp only [Option.some.injEq, reduceCtorEq] at h
      subst h
      simp [convert, run_underlying hd, run_underlying hk, Conv.intToInt]
    · rename_i hk
      split at h <;> simp only [Option.some.injEq, reduceCtorEq] at h
      subst h
      cases d <;> simp [convert, run_underlying hd, run_underlying hk]
    · simp at h

/-! addresses -/
def fieldAddrE (P : Program) (s : TypeId) (f : Nat) (x : SV) : Option SV :=
  match P.underlying s with
  | some (.struct fields) => match lnth? fields.toList f with
    | some fd => match szOf P fd.type with
      | some n => bif Nat.beq n 0 then none else match x with
        | .ptr i o => some (.ptr i (o + fd.offset))
        | .glob g o => some (.glob g (o + fd.offset))
        | _ => none
      | none => none
    | none => none
  | _ => none
theorem fieldAddrE_run {P : Program} {ρ : Nat → Nat} {s : TypeId} {f : Nat} {x v : SV} {y : Value} (h : fieldAddrE P s f x = some v) (hx : SV.rl ρ x y) (w : World) :
    ∃ z, (Instr.fieldAt s y f).run P w = .ok z w ∧ SV.rl ρ v z := by
  unfold fieldAddrE at h
  split at h <;> try (simp at h; done)
  rename_i fields hu
  split at h <;> try (simp at h; done)
  rename_i fd hf
  split at h <;> try (simp at h; done)
  rename_i n hn
  cases hb : Nat.beq n 0 with
  | true => simp [hb] at h
  | false =>
    simp only [hb, cond_false] at h
    have hn0 : n ≠ 0 := fun e => by subst e; simp at hb
    rw [lnth?_eq] at hf
    have hf' : fields[f]? = some fd := by simpa using hf
    split at h <;> try (simp at h; done)
    all_goals
      simp only [Option.some.injEq] at h
      subst h
      simp only [SV.rl] at hx
      subst hx
      refine ⟨_, ?_, by simp only [SV.rl]; rfl⟩
      simp [Instr.fieldAt, run_underlying hu, hf', Instr.sureAddr, fieldPlace, run_sizeOf hn, hn0, add_eq]

def partS (P : Program) (t : TypeId) (l : List SV) (off : Nat) : Option SV :=
  match agK P t with
  | some true => match szOf P t with
    | some sz => some (mkAgg ((l.drop off).take sz))
    | none => none
  | some false => nth? l off
  | none => none
theorem partS_run {P : Program} {ρ : Nat → Nat} {t : TypeId} {l : List SV} {xs : List Value} {off : Nat} {v : SV} (h : partS P t l off = some v) (hl : SV.rls ρ l xs) (w : World) :
    ∃ y, (part t xs.toArray off).run P w = .ok y w ∧ SV.rl ρ v y := by
  unfold partS at h
  split at h
  · rename_i ha
    split at h
    · rename_i sz hs
      simp only [Option.some.injEq] at h; subst h
      refine ⟨.agg ((xs.drop off).take sz).toArray, ?_, mkAgg_rl (rls_take _ (rls_drop _ hl))⟩
      simp [part, run_isAgg ha, run_sizeOf hs]
    · simp at h
  · rename_i ha
    obtain ⟨y, hy, hyr⟩ := rls_nth? hl h
    exact ⟨y, by simp [part, run_isAgg ha, hy], hyr⟩
  · simp at h
/-- the cells of a struct or an array held as a value -/
def aggOf : SV → Option (List SV)
  | .val (.agg a) => some (a.toList.map .val)
  | .agg l => some l
  | _ => none
theorem aggOf_rl {ρ : Nat → Nat} {x : SV} {l : List SV} {y : Value} (h : aggOf x = some l) (hx : SV.rl ρ x y) : ∃ xs : List Value, y = .agg xs.toArray ∧ SV.rls ρ l xs := by
  unfold aggOf at h
  split at h
  · rename_i a
    simp only [Option.some.injEq] at h; subst h
    simp only [SV.rl] at hx
    exact ⟨a.toList, by simpa using hx, rls_vals _⟩
  · simp only [Option.some.injEq] at h; subst h
    simp only [SV.rl] at hx
    exact hx
  · simp at h
def fieldE (P : Program) (s : TypeId) (f : Nat) (x : SV) : Option SV :=
  match P.underlying s with
  | some (.struct fields) => match lnth? fields.toList f with
    | some fd => match aggOf x with
      | some l => partS P fd.type l fd.offset
      | none => none
    | none => none
  | _ => none
theorem fieldE_run {P : Program} {ρ : Nat → Nat} {s : TypeId} {f : Nat} {x v : SV} {y : Value} (h : fieldE P s f x = some v) (hx : SV.rl ρ x y) (w : World) :
    ∃ z, (Instr.field s y f).run P w = .ok z w ∧ SV.rl ρ v z := by
  unfold fieldE at h
  split at h <;> try (simp at h; done)
  rename_i fields hu
  split at h <;> try (simp at h; done)
  rename_i fd hf
  split at h <;> try (simp at h; done)
  rename_i l hl
  rw [lnth?_eq] at hf
  have hf' : fields[f]? = some fd := by simpa using hf
  obtain ⟨xs, rfl, hxs⟩ := aggOf_rl hl hx
  obtain ⟨z, hz, hzr⟩ := partS_run h hxs w
  exact ⟨z, by simp [Instr.field, run_underlying hu, hf', asAgg, hz], hzr⟩

def idxOf : SV → Option (IntKind × Int)
  | .val (.int k n) => some (k, n)
  | _ => none
theorem idxOf_rl {ρ : Nat → Nat} {s : SV} {x : Value} {k : IntKind} {n : Int} (h : idxOf s = some (k, n)) (hr : SV.rl ρ s x) : x = .int k n := by
  unfold idxOf at h
  split at h
  · simp only [Option.some.injEq, Prod.mk.injEq] at h; obtain ⟨rfl, rfl⟩ := h; simpa [SV.rl] using hr
  · simp at h
def indexAddrE (P : Program) (t : TypeId) (x i : SV) : Option (Bool × SV) :=
  match idxOf i with
  | none => none
  | some (_, n) => match P.underlying t with
    | some (.slice e) => match szOf P e with
      | some sz => match x with
        | .slc b o len => some (decide (0 ≤ n) && decide (n < (len : Int)), .ptr b (o + n.toNat * sz))
        | _ => none
      | none => none
    | some (.array len e) => match szOf P e with
      | some sz => match x with
        | .ptr b o => some (decide (0 ≤ n) && decide (n < (len : Int)), .ptr b (o + n.toNat * sz))
        | .glob b o => some (decide (0 ≤ n) && decide (n < (len : Int)), .glob b (o + n.toNat * sz))
        | _ => none
      | none => none
    | _ => none
theorem indexAddrE_run {P : Program} {ρ : Nat → Nat} {t : TypeId} {x i v : SV} {y j : Value} (h : indexAddrE P t x i = some (true, v)) (hx : SV.rl ρ x y) (hi : SV.rl ρ i j) (w : World) :
    ∃ z, (Instr.indexAt t y j).run P w = .ok z w ∧ SV.rl ρ v z := by
  unfold indexAddrE at h
  split at h
  · simp at h
  · rename_i k n hk
    rw [idxOf_rl hk hi]
    split at h
    · rename_i e hu
      split at h <;> try (simp at h; done)
      rename_i sz hs
      split at h <;> try (simp at h; done)
      rename_i b o len
      simp only [Option.some.injEq, Prod.mk.injEq, Bool.and_eq_true, decide_eq_true_eq] at h
      obtain ⟨⟨h0, h1⟩, rfl⟩ := h
      simp only [SV.rl] at hx
      obtain ⟨a, c, rfl, hc, ha⟩ := hx
      have ha' : a = ⟨ρ b, o, none⟩ := by rcases ha with ha | ha; · omega
                                          · exact ha
      subst ha'
      refine ⟨.pointer (some ⟨ρ b, o + n.toNat * sz, none⟩), ?_, by simp [SV.rl]⟩
      simp [Instr.indexAt, run_underlying hu, asIntOf, run_sizeOf hs, h0, h1, add_eq]
    · rename_i len e hu
      split at h <;> try (simp at h; done)
      rename_i sz hs
      split at h <;> try (simp at h; done)
      all_goals
        simp only [Option.some.injEq, Prod.mk.injEq, Bool.and_eq_true, decide_eq_true_eq] at h
        obtain ⟨⟨h0, h1⟩, rfl⟩ := h
        simp only [SV.rl] at hx
        subst hx
        refine ⟨_, ?_, by simp only [SV.rl]; rfl⟩
        simp [Instr.indexAt, run_underlying hu, asIntOf, run_sizeOf hs, h0, h1, add_eq, Instr.sureAddr]
    · simp at h

def byteAt (s : ByteArray) (n : Int) : Int := ((s.data.getD n.toNat 0).toNat : Int)
def indexE (P : Program) (t : TypeId) (x i : SV) : Option (Bool × SV) :=
  match idxOf i with
  | none => none
  | some (_, n) => match P.underlying t with
    | some (.array len e) => match szOf P e with
      | some sz => match aggOf x with
        | some l => bif decide (0 ≤ n) && decide (n < (len : Int)) then (match partS P e l (n.toNat * sz) with
          | some v => some (true, v)
          | none => none) else none
        | none => none
      | none => none
    | some .string => match x with
      | .val (.string s) => some (decide (0 ≤ n) && decide (n < (s.size : Int)), .val (.int .u8 (byteAt s n)))
      | _ => none
    | _ => none
theorem indexE_run {P : Program} {ρ : Nat → Nat} {t : TypeId} {x i v : SV} {y j : Value} (h : indexE P t x i = some (true, v)) (hx : SV.rl ρ x y) (hi : SV.rl ρ i j) (w : World) :
    ∃ z, (Instr.index t y j).run P w = .ok z w ∧ SV.rl ρ v z := by
  unfold indexE at h
  split at h
  · simp at h
  · rename_i k n hk
    rw [idxOf_rl hk hi]
    split at h
    · rename_i len e hu
      split at h <;> try (simp at h; done)
      rename_i sz hs
      split at h <;> try (simp at h; done)
      rename_i l hl
      cases hb : (decide (0 ≤ n) && decide (n < (len : Int))) with
      | false => simp [hb] at h
      | true =>
        simp only [hb, cond_true] at h
        simp only [Bool.and_eq_true, decide_eq_true_eq] at hb
        split at h <;> try (simp at h; done)
        rename_i v' hv
        simp only [Option.some.injEq, Prod.mk.injEq, true_and] at h
        subst h
        obtain ⟨xs, rfl, hxs⟩ := aggOf_rl hl hx
        obtain ⟨z, hz, hzr⟩ := partS_run hv hxs w
        exact ⟨z, by simp [Instr.index, run_underlying hu, asIntOf, run_sizeOf hs, hb.1, hb.2, hz], hzr⟩
    · rename_i hu
      split at h <;> try (simp at h; done)
      rename_i s
      simp only [Option.some.injEq, Prod.mk.injEq, Bool.and_eq_true, decide_eq_true_eq] at h
      obtain ⟨⟨h0, h1⟩, rfl⟩ := h
      simp only [SV.rl] at hx
      subst hx
      have hlt : n.toNat < s.size := by omega
      refine ⟨.int .u8 (byteAt s n), ?_, by simp [SV.rl]⟩
      have hg : s[n.toNat]? = some s[n.toNat] := by simp [hlt]
      have hb : byteAt s n = (s[n.toNat].toNat : Int) := by
        unfold byteAt
        have : n.toNat < s.data.size := hlt
        simp only [Array.getD, this, dif_pos]; rfl
      simp [Instr.index, run_underlying hu, asIntOf, h0, hg, hb]
    · simp at h

def bnd : Option SV → Int → Option Int
  | none, d => some d
  | some s, _ => match idxOf s with
    | some (_, n) => some n
    | none => none
def sliceE (P : Program) (t : TypeId) (x : SV) (lo hi : Option SV) : Option (Bool × SV) :=
  match P.underlying t with
  | some .string => match x with
    | .val (.string s) => match bnd lo 0 with
      | none => none
      | some l => match bnd hi s.size with
        | none => none
        | some h => some (decide (0 ≤ l) && (decide (l ≤ h) && decide (h ≤ (s.size : Int))), .val (.string (s.extract l.toNat h.toNat)))
    | _ => none
  | some (.slice e) => match szOf P e with
    | none => none
    | some sz => match x with
      | .slc b o n => match bnd lo 0 with
        | none => none
        | some l => match bnd hi n with
          | none => none
          | some h => some (decide (0 ≤ l) && (decide (l ≤ h) && decide (h ≤ (n : Int))), .slc b (o + l.toNat * sz) (h.toNat - l.toNat))
      | _ => none
  | some (.array n e) => match szOf P e with
    | none => none
    | some sz => match x with
      | .ptr b o => match bnd lo 0 with
        | none => none
        | some l => match bnd hi n with
          | none => none
          | some h => some (decide (0 ≤ l) && (decide (l ≤ h) && decide (h ≤ (n : Int))), .slc b (o + l.toNat * sz) (h.toNat - l.toNat))
      | _ => none
  | _ => none

theorem bnd_cases {ρ : Nat → Nat} {o : Option SV} {v : Option Value} {d n : Int} (h : bnd o d = some n) (r : ∀ s, o = some s → ∃ x, v = some x ∧ SV.rl ρ s x) (nn : o = none → v = none) :
    (v = none ∧ n = d) ∨ ∃ k, v = some (.int k n) := by
  cases o with
  | none => simp only [bnd, Option.some.injEq] at h; exact .inl ⟨nn rfl, h.symm⟩
  | some s =>
    obtain ⟨x, rfl, hx⟩ := r s rfl
    simp only [bnd] at h
    split at h <;> try (simp at h; done)
    rename_i k m hk
    simp only [Option.some.injEq] at h
    subst h
    exact .inr ⟨k, by rw [idxOf_rl hk hx]⟩
theorem bnds_run {P : Program} {ρ : Nat → Nat} {isS : Bool} {len cap : Nat} {lo hi : Option SV} {lv hv : Option Value} {l h : Int} {w : World}
    (hl : bnd lo 0 = some l) (hh : bnd hi len = some h) (rl : ∀ s, lo = some s → ∃ x, lv = some x ∧ SV.rl ρ s x) (rh : ∀ s, hi = some s → ∃ x, hv = some x ∧ SV.rl ρ s x)
    (nl : lo = none → lv = none) (nh : hi = none → hv = none) (h0 : 0 ≤ l) (h1 : l ≤ h) (h2 : h ≤ (len : Int)) (hc : len ≤ cap) :
    (Instr.sliceBounds isS len cap lv hv none).run P w = .ok (l.toNat, h.toNat, cap) w := by
  have a1 : 0 ≤ h := by omega
  have a2 : h ≤ (cap : Int) := by omega
  have a3 : l ≤ ((h.toNat : Nat) : Int) := by omega
  rcases bnd_cases hl rl nl with ⟨rfl, rfl⟩ | ⟨k, rfl⟩ <;> rcases bnd_cases hh rh nh with ⟨rfl, rfl⟩ | ⟨k', rfl⟩
  · simp [Instr.sliceBounds]
  · simp [Instr.sliceBounds, Instr.sliceBound, asIntOf, a1, a2]
  · simp only [Int.toNat_natCast] at a3
    simp [Instr.sliceBounds, Instr.sliceBound, asIntOf, h0, a3]
  · have a4 : l ≤ max h 0 := by omega
    simp [Instr.sliceBounds, Instr.sliceBound, asIntOf, a1, a2, h0, a4]

theorem sliceE_run {P : Program} {ρ : Nat → Nat} {t : TypeId} {x v : SV} {lo hi : Option SV} {y : Value} {lv hv : Option Value} (h : sliceE P t x lo hi = some (true, v)) (hx : SV.rl ρ x y)
    (rl : ∀ s, lo = some s → ∃ x, lv = some x ∧ SV.rl ρ s x) (rh : ∀ s, hi = some s → ∃ x, hv = some x ∧ SV.rl ρ s x)
    (nl : lo = none → lv = none) (nh : hi = none → hv = none) (w : World) : ∃ z, (Instr.sliceAt t y lv hv none).run P w = .ok z w ∧ SV.rl ρ v z := by
  unfold sliceE at h
  split at h
  · rename_i hu
    split at h <;> try (simp at h; done)
    rename_i s
    split at h
    · simp at h
    rename_i l hl
    split at h
    · simp at h
    rename_i u hh
    simp only [Option.some.injEq, Prod.mk.injEq, Bool.and_eq_true, decide_eq_true_eq] at h
    obtain ⟨⟨h0, h1, h2⟩, rfl⟩ := h
    simp only [SV.rl] at hx; subst hx
    have hb := bnds_run (P := P) (isS := false) (w := w) hl hh rl rh nl nh h0 h1 h2 (Nat.le_refl _)
    exact ⟨.string (s.extract l.toNat u.toNat), by simp [Instr.sliceAt, Instr.slice, run_underlying hu, hb], by simp [SV.rl]⟩
  · rename_i e hu
    split at h
    · simp at h
    rename_i sz hs
    split at h <;> try (simp at h; done)
    rename_i b o n
    split at h
    · simp at h
    rename_i l hl
    split at h
    · simp at h
    rename_i u hh
    simp only [Option.some.injEq, Prod.mk.injEq, Bool.and_eq_true, decide_eq_true_eq] at h
    obtain ⟨⟨h0, h1, h2⟩, rfl⟩ := h
    simp only [SV.rl] at hx
    obtain ⟨a, c, rfl, hc, ha⟩ := hx
    have hb := bnds_run (P := P) (isS := true) (cap := c) (w := w) hl hh rl rh nl nh h0 h1 h2 hc
    refine ⟨.slice (if c = l.toNat then some a else Option.map (fun x => x.add (l.toNat * sz)) (some a)) (u.toNat - l.toNat) (c - l.toNat), by simp only [Instr.sliceAt, Instr.slice, Sem.run_bind, run_underlying hu, Result.andThen_ok, hb, run_sizeOf hs, Sem.run_pure], ?_⟩
    simp only [SV.rl]
    by_cases hcl : c = l.toNat
    · refine ⟨a, c - l.toNat, by simp [hcl], by omega, .inl (by omega)⟩
    · refine ⟨a.add (l.toNat * sz), c - l.toNat, by simp [hcl], by omega, ?_⟩
      rcases ha with ha | ha
      · exact .inl (by omega)
      · exact .inr (by rw [ha, add_eq])
  · rename_i n e hu
    split at h
    · simp at h
    rename_i sz hs
    split at h <;> try (simp at h; done)
    rename_i b o
    split at h
    · simp at h
    rename_i l hl
    split at h
    · simp at h
    rename_i u hh
    simp only [Option.some.injEq, Prod.mk.injEq, Bool.and_eq_true, decide_eq_true_eq] at h
    obtain ⟨⟨h0, h1, h2⟩, rfl⟩ := h
    simp only [SV.rl] at hx
    subst hx
    have hb := bnds_run (P := P) (isS := false) (cap := n) (w := w) hl hh rl rh nl nh h0 h1 h2 (Nat.le_refl _)
    refine ⟨.slice (some (if n = l.toNat then ⟨ρ b, o, none⟩ else (⟨ρ b, o, none⟩ : Addr).add (l.toNat * sz))) (u.toNat - l.toNat) (n - l.toNat), by simp only [Instr.sliceAt, Sem.run_bind, run_underlying hu, Result.andThen_ok, Instr.sureAddr, hb, run_sizeOf hs, Sem.run_pure], ?_⟩
    simp only [SV.rl]
    by_cases hcl : n = l.toNat
    · exact ⟨⟨ρ b, o, none⟩, n - l.toNat, by simp [hcl], by omega, .inl (by omega)⟩
    · exact ⟨(⟨ρ b, o, none⟩ : Addr).add (l.toNat * sz), n - l.toNat, by simp only [hcl, if_false], by omega, .inr (by rw [add_eq])⟩
  · simp at h

def extractE (x : SV) (i : Nat) : Option SV := match x with
  | .val (.tuple vs) => match lnth? vs.toList i with
    | some v => some (.val v)
    | none => none
  | .tup l => nth? l i
  | _ => none
theorem extractE_run {P : Program} {ρ : Nat → Nat} {x v : SV} {i : Nat} {y : Value} (h : extractE x i = some v) (hx : SV.rl ρ x y) (w : World) :
    ∃ z, (Instr.extract y i).run P w = .ok z w ∧ SV.rl ρ v z := by
  unfold extractE at h
  split at h
  · rename_i vs
    split at h <;> try (simp at h; done)
    rename_i u hv
    simp only [Option.some.injEq] at h; subst h
    simp only [SV.rl] at hx; subst hx
    rw [lnth?_eq] at hv
    have hv' : vs[i]? = some u := by simpa using hv
    exact ⟨u, by simp [Instr.extract, hv'], by simp [SV.rl]⟩
  · simp only [SV.rl] at hx
    obtain ⟨xs, rfl, hl⟩ := hx
    obtain ⟨z, hz, hzr⟩ := rls_nth? hl h
    exact ⟨z, by simp [Instr.extract, hz], hzr⟩
  · simp at h

end Go.Wk
