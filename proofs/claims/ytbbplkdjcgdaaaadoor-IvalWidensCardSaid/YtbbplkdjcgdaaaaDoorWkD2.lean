/- The walk by evaluation, part D2: two operations of a region that are apart may change places. Conditions: none. -/
import Derived.Test.YtbbplkdjcgdaaaaDoorWkD1
set_option autoImplicit false
set_option linter.unusedVariables false
set_option linter.unusedSimpArgs false
set_option linter.unnecessarySimpa false
namespace Go.Wk
open Go Go.RowKit

abbrev DX := St × Nat
inductive Mact where
  | idle
  | new (k : Nat) (b : LB)
  | put (i p : Nat) (cs : List SV)
structure Ef where
  v : SV
  m : Nat
  A : Mact

def rdOf (e : Operand → SV) (o : Oper) : Nat := match o.op with
  | .load _ x => match e x with
    | .ptr i _ => 2 ^ i
    | _ => 0
  | _ => 0
def evalRun (P : Program) (G : Glob) (T : Tab) (o : Oper) (n : Nat) (e : Operand → SV) (bl : List (Option LB)) : Option Ef :=
  match opV P G T bl e o with
  | some (ok, v) => bif ok then some ⟨v, rdOf e o, .idle⟩ else none
  | none => match opN P e o with
    | some (cs, el, ln) => some ⟨newV n ln, 0, .new n ⟨cs, el⟩⟩
    | none => match opP P e o with
      | some (i, p, cs) => some ⟨.val undef, 0, .put i p cs⟩
      | none => none
def idleE : Ef := ⟨.val undef, 0, .idle⟩
def evalF (P : Program) (G : Glob) (T : Tab) (ops : Array Oper) (o : Oper) (n : Nat) (x : DX) : Option Ef :=
  match gd ops x.1.tmps o with
  | .yes => evalRun P G T o n (ev x.1.tmps) x.1.blks
  | .no => some idleE
  | .test _ b want => bif b == want then evalRun P G T o n (ev x.1.tmps) x.1.blks else some idleE
  | .bad => none
def oldOk (n0 : Nat) (tm : List SV) (d : Option Tmp) : Bool := match d with
  | some d => SV.und n0 (nth tm d)
  | none => true
def applyF (n0 : Nat) (strong : Bool) (dst : Option Tmp) (f : Ef) (x : DX) : Option DX :=
  bif oldOk n0 x.1.tmps dst then (match f.A with
    | .idle => some (⟨putD x.1.tmps dst f.v, x.1.blks, x.1.saved⟩, x.2 ||| f.m)
    | .new k b => bif SV.freeL k x.1.tmps && (freeLL k x.1.saved && (freeB k x.1.blks && (SV.freeL k b.cells && (isNone' (blk? x.1.blks k) && Nat.blt k x.1.blks.length)))) then
        some (⟨putD x.1.tmps dst f.v, setB x.1.blks k b, x.1.saved⟩, x.2 ||| f.m) else none
    | .put i p cs => match blk? x.1.blks i with
      | some b => bif Nat.ble (p + cs.length) b.cells.length && (strong || !(Nat.testBit x.2 i)) then
          some (⟨putD x.1.tmps dst f.v, setB x.1.blks i ⟨splice b.cells p cs, b.elem⟩, x.1.saved⟩, x.2 ||| f.m) else none
      | none => none)
  else none
def stepF (P : Program) (G : Glob) (T : Tab) (ops : Array Oper) (n0 : Nat) (strong : Bool) (o : Oper) (n : Nat) (x : DX) : Option DX :=
  match evalF P G T ops o n x with
  | some f => applyF n0 strong o.dst f x
  | none => none

section
variable {P : Program} {G : Glob} {T : Tab} {ops : Array Oper}

theorem bif_t {α : Type} {c : Bool} {x : Option α} {y : α} (h : (bif c then x else none) = some y) : c = true ∧ x = some y := by cases c <;> simp_all

theorem opV_new {bl : List (Option LB)} {e : Operand → SV} {o : Oper} (h : isNew o = true) : opV P G T bl e o = none := by
  obtain ⟨dst, op, type, pos, after, guard⟩ := o; cases op <;> simp_all [isNew, opV]
theorem opV_put {bl : List (Option LB)} {e : Operand → SV} {o : Oper} (h : isPut o = true) : opV P G T bl e o = none := by
  obtain ⟨dst, op, type, pos, after, guard⟩ := o; cases op <;> simp_all [isPut, opV]
theorem opN_new {e : Operand → SV} {o : Oper} {r : List SV × TypeId × Option Nat} (h : opN P e o = some r) : isNew o = true := by
  obtain ⟨dst, op, type, pos, after, guard⟩ := o; cases op <;> simp_all [isNew, opN]
theorem opP_put {e : Operand → SV} {o : Oper} {r : Nat × Nat × List SV} (h : opP P e o = some r) : isPut o = true := by
  obtain ⟨dst, op, type, pos, after, guard⟩ := o; cases op <;> simp_all [isPut, opP]

/-- what an operation's effect may be -/
theorem evalRun_kind {o : Oper} {n : Nat} {e : Operand → SV} {bl : List (Option LB)} {f : Ef} (h : evalRun P G T o n e bl = some f) :
    (f.A = .idle ∨ (∃ b, f.A = .new n b ∧ isNew o = true) ∨ ∃ i p cs, f.A = .put i p cs ∧ isPut o = true) ∧ (isLoad o = false → f.m = 0) ∧ (isLoad o = true → f.m = rdOf e o) := by
  unfold evalRun at h
  split at h
  · obtain ⟨_, h⟩ := bif_t h
    simp only [Option.some.injEq] at h; subst h
    refine ⟨.inl rfl, fun hl => ?_, fun _ => rfl⟩
    unfold rdOf; unfold isLoad at hl
    split at hl <;> simp_all
  · split at h
    · rename_i cs el ln hn
      simp only [Option.some.injEq] at h; subst h
      have := opN_new hn
      refine ⟨.inr (.inl ⟨_, rfl, this⟩), fun _ => rfl, fun hl => ?_⟩
      obtain ⟨dst, op, type, pos, after, guard⟩ := o; cases op <;> simp_all [isNew, isLoad]
    · split at h <;> simp only [Option.some.injEq, reduceCtorEq] at h
      rename_i i p cs hp
      subst h
      have := opP_put hp
      refine ⟨.inr (.inr ⟨_, _, _, rfl, this⟩), fun _ => rfl, fun hl => ?_⟩
      obtain ⟨dst, op, type, pos, after, guard⟩ := o; cases op <;> simp_all [isPut, isLoad]
theorem evalF_kind {o : Oper} {n : Nat} {x : DX} {f : Ef} (h : evalF P G T ops o n x = some f) :
    (f.A = .idle ∨ (∃ b, f.A = .new n b ∧ isNew o = true) ∨ ∃ i p cs, f.A = .put i p cs ∧ isPut o = true) ∧ (isLoad o = false → f.m = 0) := by
  have hi : ∀ f, some idleE = some f → (f.A = .idle ∨ (∃ b, f.A = .new n b ∧ isNew o = true) ∨ ∃ i p cs, f.A = .put i p cs ∧ isPut o = true) ∧ (isLoad o = false → f.m = 0) := by
    intro f h; simp only [Option.some.injEq] at h; subst h; exact ⟨.inl rfl, fun _ => rfl⟩
  unfold evalF at h
  split at h
  · exact ⟨(evalRun_kind h).1, (evalRun_kind h).2.1⟩
  · exact hi f h
  · rename_i b want _
    cases hb : (b == want) with
    | true => simp only [hb, cond_true] at h; exact ⟨(evalRun_kind h).1, (evalRun_kind h).2.1⟩
    | false => simp only [hb, cond_false] at h; exact hi f h
  · simp at h

/-- two states that agree on what an operation looks at -/
def SameAt (ops : Array Oper) (o : Oper) (tm tm' : List SV) : Prop := ∀ t ∈ o.looksAt ops, nth tm t = nth tm' t
theorem gd_same {o : Oper} {tm tm' : List SV} (h : SameAt ops o tm tm') : gd ops tm o = gd ops tm' o := by
  unfold gd
  cases hg : o.guard with
  | none => rfl
  | some gw =>
    obtain ⟨j, want⟩ := gw
    simp only
    rw [lnth?_eq]
    cases hj : ops.toList[j]? with
    | none => rfl
    | some oj =>
      simp only
      cases hd : oj.dst with
      | none => rfl
      | some t =>
        have : nth tm t = nth tm' t := h t (by
          have hj' : ops[j]? = some oj := by simpa using hj
          simp [Oper.looksAt, hg, hj', hd])
        simp only [this]
theorem ev_same {o : Oper} {tm tm' : List SV} (h : SameAt ops o tm tm') : ∀ x ∈ o.op.operands, ev tm x = ev tm' x := by
  intro x hx
  cases x with
  | tmp t => exact h t (by simp only [Oper.looksAt, List.mem_append, List.mem_filterMap]; exact .inl ⟨.tmp t, by simpa using hx, rfl⟩)
  | _ => rfl

theorem loadE_mem {bl bl' : List (Option LB)} {t : TypeId} {s v : SV} (h : loadE P G bl t s = some v) (hb : ∀ i o, s = .ptr i o → blk? bl' i = blk? bl i) : loadE P G bl' t s = some v := by
  unfold loadE at h ⊢
  split at h <;> try (simp at h; done)
  split at h <;> try (simp at h; done)
  split at h <;> try (simp at h; done)
  · rename_i i o
    rw [hb i o rfl]; exact h
  · exact h
theorem loadE_live {bl : List (Option LB)} {t : TypeId} {i o : Nat} {v : SV} (h : loadE P G bl t (.ptr i o) = some v) : ∃ b, blk? bl i = some b := by
  unfold loadE at h
  split at h <;> try (simp at h; done)
  split at h <;> try (simp at h; done)
  simp only at h
  split at h <;> try (simp at h; done)
  rename_i b hb; exact ⟨b, hb⟩

/-- where a loading operation loads -/
def loadsAt (e : Operand → SV) (o : Oper) (i : Nat) : Prop := ∃ t x p, o.op = .load t x ∧ e x = .ptr i p

theorem evalRun_same {o : Oper} {n : Nat} {e e' : Operand → SV} {bl bl' : List (Option LB)} {f : Ef} (he : ∀ x ∈ o.op.operands, e x = e' x) (h : evalRun P G T o n e bl = some f)
    (hb : ∀ i, loadsAt e o i → Nat.testBit f.m i = true → blk? bl' i = blk? bl i) : evalRun P G T o n e' bl' = some f := by
  by_cases hl : isLoad o = true
  · obtain ⟨dst, op, type, pos, after, guard⟩ := o
    cases op <;> simp [isLoad] at hl
    rename_i t x
    have hx : e x = e' x := he x (by simp [Op.operands])
    unfold evalRun at h ⊢
    simp only [opV, opN, opP] at h ⊢
    cases hv : loadE P G bl t (e x) with
    | none => rw [hv] at h; simp at h
    | some v =>
      have hm := (evalRun_kind (P := P) (G := G) (T := T) (o := ⟨dst, .load t x, type, pos, after, guard⟩) (n := n) (e := e) (bl := bl) (f := f) (by unfold evalRun; simp only [opV, opN, opP]; exact h)).2.2 rfl
      have hv' : loadE P G bl' t (e' x) = some v := by rw [← hx]; exact loadE_mem hv fun i p hp => hb i ⟨t, x, p, rfl, hp⟩ (by rw [hm]; simp [rdOf, hp])
      have hr : rdOf e' ⟨dst, .load t x, type, pos, after, guard⟩ = rdOf e ⟨dst, .load t x, type, pos, after, guard⟩ := by simp only [rdOf, hx]
      rw [hv] at h
      rw [hv', hr]
      exact h
  · have hl' : isLoad o = false := by simpa using hl
    have hr : rdOf e' o = rdOf e o := by
      unfold rdOf; unfold isLoad at hl'; split at hl' <;> simp_all
    unfold evalRun at h ⊢
    rw [← opV_congr (bl := bl) (bl' := bl') o he hl', ← opN_congr o he, ← opP_congr o he, hr]
    exact h
theorem evalF_same {o : Oper} {n : Nat} {x y : DX} {f : Ef} (hs : SameAt ops o x.1.tmps y.1.tmps) (h : evalF P G T ops o n x = some f)
    (hb : ∀ i, loadsAt (ev x.1.tmps) o i → Nat.testBit f.m i = true → blk? y.1.blks i = blk? x.1.blks i) : evalF P G T ops o n y = some f := by
  have key : evalRun P G T o n (ev x.1.tmps) x.1.blks = some f → evalRun P G T o n (ev y.1.tmps) y.1.blks = some f := fun hf => evalRun_same (ev_same hs) hf hb
  unfold evalF at h ⊢
  rw [← gd_same hs]
  split at h
  · exact key h
  · exact h
  · rename_i b want _
    cases hbw : (b == want) with
    | true => simp only [hbw, cond_true] at h ⊢; exact key h
    | false => simpa only [hbw, cond_false] using h
  · simp at h

theorem nth_setN : ∀ (l : List SV) (d t : Nat) (v : SV), d ≠ t → nth (setN l d v) t = nth l t
  | [], _, _, _, _ => rfl
  | x :: l, 0, 0, _, h => absurd rfl h
  | x :: l, 0, t + 1, v, _ => rfl
  | x :: l, d + 1, 0, v, _ => rfl
  | x :: l, d + 1, t + 1, v, h => by simp only [setN, nth]; exact nth_setN l d t v (by omega)
theorem nth_putD {tm : List SV} {d : Option Tmp} {v : SV} {t : Nat} (h : ∀ k, d = some k → k ≠ t) : nth (putD tm d v) t = nth tm t := by
  cases d with
  | none => rfl
  | some k => exact nth_setN tm k t v (h k rfl)
theorem setN_comm : ∀ (l : List SV) (d t : Nat) (v u : SV), d ≠ t → setN (setN l d v) t u = setN (setN l t u) d v
  | [], _, _, _, _, _ => rfl
  | x :: l, 0, 0, _, _, h => absurd rfl h
  | x :: l, 0, t + 1, v, u, _ => rfl
  | x :: l, d + 1, 0, v, u, _ => rfl
  | x :: l, d + 1, t + 1, v, u, h => by simp only [setN]; rw [setN_comm l d t v u (by omega)]
theorem putD_comm {tm : List SV} {c d : Option Tmp} {v u : SV} (h : ∀ k, c = some k → d ≠ some k) : putD (putD tm c v) d u = putD (putD tm d u) c v := by
  cases c with
  | none => rfl
  | some k =>
    cases d with
    | none => rfl
    | some t => exact setN_comm tm k t v u (fun e => h k rfl (by rw [e]))
theorem setB_comm : ∀ (l : List (Option LB)) (d t : Nat) (v u : LB), d ≠ t → setB (setB l d v) t u = setB (setB l t u) d v
  | [], _, _, _, _, _ => rfl
  | x :: l, 0, 0, _, _, h => absurd rfl h
  | x :: l, 0, t + 1, v, u, _ => rfl
  | x :: l, d + 1, 0, v, u, _ => rfl
  | x :: l, d + 1, t + 1, v, u, h => by simp only [setB]; rw [setB_comm l d t v u (by omega)]
theorem blk?_setB_ne : ∀ (l : List (Option LB)) (d t : Nat) (v : LB), d ≠ t → blk? (setB l d v) t = blk? l t
  | [], _, _, _, _ => rfl
  | x :: l, 0, 0, _, h => absurd rfl h
  | x :: l, 0, t + 1, v, _ => rfl
  | x :: l, d + 1, 0, v, _ => rfl
  | x :: l, d + 1, t + 1, v, h => by simp only [setB, blk?]; exact blk?_setB_ne l d t v (by omega)
theorem setB_len : ∀ (l : List (Option LB)) (d : Nat) (v : LB), (setB l d v).length = l.length
  | [], _, _ => rfl
  | _ :: l, 0, _ => rfl
  | _ :: l, d + 1, v => by simp [setB, setB_len l d v]

theorem freeL_setN {k : Nat} : ∀ {l : List SV} {d : Nat} {v : SV}, SV.freeL k (setN l d v) = true → SV.free k (nth l d) = true → SV.freeL k l = true
  | [], _, _, _, _ => by simp [SV.freeL]
  | x :: l, 0, v, h, hn => by simp only [setN, SV.freeL, Bool.and_eq_true] at h ⊢; exact ⟨by simpa [nth] using hn, h.2⟩
  | x :: l, d + 1, v, h, hn => by simp only [setN, SV.freeL, Bool.and_eq_true] at h ⊢; exact ⟨h.1, freeL_setN h.2 (by simpa [nth] using hn)⟩
theorem freeL_setN' {k : Nat} : ∀ {l : List SV} {d : Nat} {v : SV}, SV.freeL k l = true → SV.free k v = true → SV.freeL k (setN l d v) = true
  | [], _, _, _, _ => by simp [setN, SV.freeL]
  | x :: l, 0, v, h, hn => by simp only [setN, SV.freeL, Bool.and_eq_true] at h ⊢; exact ⟨hn, h.2⟩
  | x :: l, d + 1, v, h, hn => by simp only [setN, SV.freeL, Bool.and_eq_true] at h ⊢; exact ⟨h.1, freeL_setN' h.2 hn⟩
theorem freeB_setB {k : Nat} : ∀ {l : List (Option LB)} {d : Nat} {b : LB}, freeB k (setB l d b) = true → blk? l d = none → freeB k l = true
  | [], _, _, _, _ => rfl
  | none :: l, 0, b, h, _ => by simp only [setB, freeB, Bool.and_eq_true] at h ⊢; exact h.2
  | some c :: l, 0, b, _, hn => by simp [blk?] at hn
  | none :: l, d + 1, b, h, hn => by simp only [setB, freeB] at h ⊢; exact freeB_setB h (by simpa [blk?] using hn)
  | some c :: l, d + 1, b, h, hn => by simp only [setB, freeB, Bool.and_eq_true] at h ⊢; exact ⟨h.1, freeB_setB h.2 (by simpa [blk?] using hn)⟩
theorem freeB_setB' {k : Nat} : ∀ {l : List (Option LB)} {d : Nat} {b : LB}, freeB k l = true → SV.freeL k b.cells = true → freeB k (setB l d b) = true
  | [], _, _, _, _ => rfl
  | none :: l, 0, b, h, hb => by simp only [setB, freeB, Bool.and_eq_true] at h ⊢; exact ⟨hb, h⟩
  | some c :: l, 0, b, h, hb => by simp only [setB, freeB, Bool.and_eq_true] at h ⊢; exact ⟨hb, h.2⟩
  | none :: l, d + 1, b, h, hb => by simp only [setB, freeB] at h ⊢; exact freeB_setB' h hb
  | some c :: l, d + 1, b, h, hb => by simp only [setB, freeB, Bool.and_eq_true] at h ⊢; exact ⟨h.1, freeB_setB' h.2 hb⟩

mutual
theorem free_und {n k : Nat} (hk : n ≤ k) : ∀ (s : SV), SV.und n s = true → SV.free k s = true
  | .ptr i o, h => by
    simp only [SV.und, Nat.blt_eq] at h
    simp only [SV.free, Bool.not_eq_true']
    cases hb : Nat.beq i k with
    | false => rfl
    | true => have := Nat.eq_of_beq_eq_true hb; omega
  | .slc i o m, h => by
    simp only [SV.und, Nat.blt_eq] at h
    simp only [SV.free, Bool.not_eq_true']
    cases hb : Nat.beq i k with
    | false => rfl
    | true => have := Nat.eq_of_beq_eq_true hb; omega
  | .fn f p c, h => by simp only [SV.und, Bool.and_eq_true] at h; simp only [SV.free, Bool.and_eq_true]; exact ⟨freeL_und hk p h.1, freeL_und hk c h.2⟩
  | .agg l, h => by simp only [SV.und] at h; simp only [SV.free]; exact freeL_und hk l h
  | .tup l, h => by simp only [SV.und] at h; simp only [SV.free]; exact freeL_und hk l h
  | .ifc t v, h => by simp only [SV.und] at h; simp only [SV.free]; exact free_und hk v h
  | .val v, _ => by simp [SV.free]
  | .glob g o, _ => by simp [SV.free]
  | .unk, _ => by simp [SV.free]
theorem freeL_und {n k : Nat} (hk : n ≤ k) : ∀ (l : List SV), SV.undL n l = true → SV.freeL k l = true
  | [], _ => by simp [SV.freeL]
  | s :: r, h => by simp only [SV.undL, Bool.and_eq_true] at h; simp only [SV.freeL, Bool.and_eq_true]; exact ⟨free_und hk s h.1, freeL_und hk r h.2⟩
end

theorem ev_free {k : Nat} {tm : List SV} (h : SV.freeL k tm = true) : ∀ x, SV.free k (ev tm x) = true
  | .tmp t => free_nth t h
  | .const v => by simp [ev, SV.free]
  | .global g => by simp [ev, SV.free]
  | .func f => by simp [ev, SV.free]
theorem evalRun_free {k : Nat} {o : Oper} {n : Nat} {e : Operand → SV} {bl : List (Option LB)} {f : Ef} (he : ∀ x, SV.free k (e x) = true) (hb : freeB k bl = true) (hk : isNew o = true → n ≠ k) (h : evalRun P G T o n e bl = some f) :
    SV.free k f.v = true ∧ ∀ i b, f.A = .new i b → SV.freeL k b.cells = true := by
  unfold evalRun at h
  split at h
  · rename_i ok v hv
    obtain ⟨_, h⟩ := bif_t h
    simp only [Option.some.injEq] at h; subst h
    exact ⟨opV_free he hb hv, fun i b h => by simp at h⟩
  · split at h
    · rename_i cs el ln hn
      simp only [Option.some.injEq] at h; subst h
      have hne := hk (opN_new hn)
      refine ⟨?_, fun i b h => by simp only [Mact.new.injEq] at h; rw [← h.2]; exact opN_free he hn⟩
      have : (Nat.beq n k) = false := by
        cases hb : Nat.beq n k with
        | false => rfl
        | true => exact absurd (Nat.eq_of_beq_eq_true hb) hne
      cases ln <;> simp [newV, SV.free, this]
    · split at h <;> simp only [Option.some.injEq, reduceCtorEq] at h
      subst h
      exact ⟨by simp [SV.free], fun i b h => by simp at h⟩
theorem evalF_free {k : Nat} {o : Oper} {n : Nat} {x : DX} {f : Ef} (ht : SV.freeL k x.1.tmps = true) (hb : freeB k x.1.blks = true) (hk : isNew o = true → n ≠ k) (h : evalF P G T ops o n x = some f) :
    SV.free k f.v = true ∧ ∀ i b, f.A = .new i b → SV.freeL k b.cells = true := by
  have hi : ∀ f, some idleE = some f → SV.free k f.v = true ∧ ∀ i b, f.A = .new i b → SV.freeL k b.cells = true := by
    intro f h; simp only [Option.some.injEq] at h; subst h; exact ⟨by simp [idleE, SV.free], fun i b h => by simp [idleE] at h⟩
  unfold evalF at h
  split at h
  · exact evalRun_free (ev_free ht) hb hk h
  · exact hi f h
  · rename_i b want _
    cases hbw : (b == want) with
    | true => simp only [hbw, cond_true] at h; exact evalRun_free (ev_free ht) hb hk h
    | false => simp only [hbw, cond_false] at h; exact hi f h
  · simp at h
end
end Go.Wk
