/- The walk by evaluation, part D3: the regions that draw their order. Conditions: none. -/
import Derived.Test.YtbbplkdjcgdaaaaDoorWkD2
set_option autoImplicit false
set_option linter.unusedVariables false
set_option linter.unusedSimpArgs false
set_option linter.unnecessarySimpa false
namespace Go.Wk
open Go Go.RowKit

section
variable {P : Program} {G : Glob} {T : Tab} {ops : Array Oper}

theorem stepF_parts {n0 n : Nat} {s : Bool} {o : Oper} {x y : DX} (h : stepF P G T ops n0 s o n x = some y) : ∃ f, evalF P G T ops o n x = some f ∧ applyF n0 s o.dst f x = some y := by
  unfold stepF at h
  split at h <;> try (simp at h; done)
  rename_i f hf; exact ⟨f, hf, h⟩
theorem stepF_mk {n0 n : Nat} {s : Bool} {o : Oper} {x y : DX} {f : Ef} (h : evalF P G T ops o n x = some f) (h' : applyF n0 s o.dst f x = some y) : stepF P G T ops n0 s o n x = some y := by
  unfold stepF; rw [h]; exact h'

/-- what is known where an effect was applied -/
theorem applyF_idle {n0 : Nat} {s : Bool} {d : Option Tmp} {f : Ef} {x y : DX} (hA : f.A = .idle) : applyF n0 s d f x = some y ↔
    oldOk n0 x.1.tmps d = true ∧ y = (⟨putD x.1.tmps d f.v, x.1.blks, x.1.saved⟩, x.2 ||| f.m) := by
  unfold applyF
  cases oldOk n0 x.1.tmps d <;> simp [hA]
  exact eq_comm
def newOk (k : Nat) (b : LB) (x : DX) : Bool := SV.freeL k x.1.tmps && (freeLL k x.1.saved && (freeB k x.1.blks && (SV.freeL k b.cells && (isNone' (blk? x.1.blks k) && Nat.blt k x.1.blks.length))))
theorem applyF_new {n0 k : Nat} {b : LB} {s : Bool} {d : Option Tmp} {f : Ef} {x y : DX} (hA : f.A = .new k b) : applyF n0 s d f x = some y ↔
    oldOk n0 x.1.tmps d = true ∧ newOk k b x = true ∧ y = (⟨putD x.1.tmps d f.v, setB x.1.blks k b, x.1.saved⟩, x.2 ||| f.m) := by
  unfold applyF newOk
  rw [hA]
  cases oldOk n0 x.1.tmps d
  · simp
  · simp only [cond_true, true_and]
    constructor
    · intro h; have := bif_t h; exact ⟨this.1, (Option.some.inj this.2).symm⟩
    · rintro ⟨h, rfl⟩; rw [h]; rfl
theorem applyF_put {n0 i p : Nat} {cs : List SV} {s : Bool} {d : Option Tmp} {f : Ef} {x y : DX} (hA : f.A = .put i p cs) : applyF n0 s d f x = some y ↔
    oldOk n0 x.1.tmps d = true ∧ ∃ b, blk? x.1.blks i = some b ∧ (Nat.ble (p + cs.length) b.cells.length && (s || !(Nat.testBit x.2 i))) = true ∧
      y = (⟨putD x.1.tmps d f.v, setB x.1.blks i ⟨splice b.cells p cs, b.elem⟩, x.1.saved⟩, x.2 ||| f.m) := by
  unfold applyF
  rw [hA]
  cases oldOk n0 x.1.tmps d
  · simp
  · cases hb : blk? x.1.blks i with
    | none => simp [hb]
    | some b =>
      simp only [cond_true, true_and]
      constructor
      · intro h; simp only [hb] at h; have := bif_t h; exact ⟨b, rfl, this.1, (Option.some.inj this.2).symm⟩
      · rintro ⟨c, hc, h, rfl⟩; cases hc; simp only [hb]; rw [h]; rfl

theorem oldOk_put {n0 : Nat} {tm : List SV} {c d : Option Tmp} {v : SV} (h : ∀ k, c = some k → d ≠ some k) : oldOk n0 (putD tm c v) d = oldOk n0 tm d := by
  cases d with
  | none => rfl
  | some t => simp only [oldOk]; rw [nth_putD fun k hk e => h k hk (by rw [e])]
theorem freeL_putD {k n0 : Nat} {tm : List SV} {d : Option Tmp} {v : SV} (hk : n0 ≤ k) (ho : oldOk n0 tm d = true) (h : SV.freeL k (putD tm d v) = true) : SV.freeL k tm = true := by
  cases d with
  | none => exact h
  | some t => exact freeL_setN h (free_und hk _ ho)
theorem freeL_putD' {k : Nat} {tm : List SV} {d : Option Tmp} {v : SV} (h : SV.freeL k tm = true) (hv : SV.free k v = true) : SV.freeL k (putD tm d v) = true := by
  cases d with
  | none => exact h
  | some t => exact freeL_setN' h hv
theorem sameAt_put {o : Oper} {tm : List SV} {d : Option Tmp} {v : SV} (h : ∀ k, d = some k → k ∉ o.looksAt ops) : SameAt ops o tm (putD tm d v) := by
  intro t ht
  rw [nth_putD]
  intro k hk e
  subst e
  exact h _ hk ht
theorem loadsAt_free {o : Oper} {tm : List SV} {k i : Nat} (hf : SV.freeL k tm = true) (h : loadsAt (ev tm) o i) : i ≠ k := by
  obtain ⟨t, x, p, _, hp⟩ := h
  have := ev_free hf x
  rw [hp] at this
  intro e
  subst e
  simp [SV.free] at this
theorem loads_live {o : Oper} {n : Nat} {x : DX} {f : Ef} {i : Nat} (h : evalF P G T ops o n x = some f) (hl : loadsAt (ev x.1.tmps) o i) (hm : Nat.testBit f.m i = true) : ∃ b, blk? x.1.blks i = some b := by
  obtain ⟨t, xo, p, hop, hp⟩ := hl
  have key : evalRun P G T o n (ev x.1.tmps) x.1.blks = some f → ∃ b, blk? x.1.blks i = some b := by
    intro hr
    unfold evalRun at hr
    have hv : opV P G T x.1.blks (ev x.1.tmps) o = match loadE P G x.1.blks t (.ptr i p) with | some v => some (true, v) | none => none := by
      obtain ⟨dst, op, type, pos, after, guard⟩ := o
      simp only at hop
      subst hop
      simp only [opV, hp]
      cases loadE P G x.1.blks t (.ptr i p) <;> rfl
    cases hle : loadE P G x.1.blks t (.ptr i p) with
    | none =>
      have h2 : opN P (ev x.1.tmps) o = none := by obtain ⟨dst, op, type, pos, after, guard⟩ := o; simp only at hop; subst hop; rfl
      have h3 : opP P (ev x.1.tmps) o = none := by obtain ⟨dst, op, type, pos, after, guard⟩ := o; simp only at hop; subst hop; rfl
      rw [hv, hle, h2, h3] at hr
      simp at hr
    | some v => exact loadE_live hle
  have nokey : ¬ (idleE = f) := by intro e; subst e; simp [idleE] at hm
  unfold evalF at h
  split at h
  · exact key h
  · simp only [Option.some.injEq] at h; exact absurd h nokey
  · rename_i b want _
    cases hb : (b == want) with
    | true => simp only [hb, cond_true] at h; exact key h
    | false => simp only [hb, cond_false, Option.some.injEq] at h; exact absurd h nokey
  · simp at h

/-- TWO OPERATIONS THAT ARE APART: the second may come first. -/
theorem swap {oj oi : Oper} {nj ni n0 : Nat} {sj si : Bool} (hap : oj.apart ops oi = true) (c1 : isPut oj = true → isLoad oi = false ∧ isNew oi = false ∧ isPut oi = false)
    (c2 : isPut oi = true → isNew oj = false ∧ isPut oj = false) (hs : si = true → isLoad oj = false) (hn : isNew oj = true → isNew oi = true → nj ≠ ni) (hnj : n0 ≤ nj) (hni : n0 ≤ ni)
    {x y z : DX} (h1 : stepF P G T ops n0 sj oj nj x = some y) (h2 : stepF P G T ops n0 si oi ni y = some z) :
    ∃ y', stepF P G T ops n0 si oi ni x = some y' ∧ stepF P G T ops n0 sj oj nj y' = some z := by
  obtain ⟨a1, a2, a3⟩ := Oper.apart_spec hap
  obtain ⟨fj, ej, pj⟩ := stepF_parts h1
  obtain ⟨fi, ei, pi⟩ := stepF_parts h2
  obtain ⟨kj, mj⟩ := evalF_kind ej
  obtain ⟨ki, mi⟩ := evalF_kind ei
  have a2' : ∀ k, oi.dst = some k → oj.dst ≠ some k := fun k hk e => a2 k e hk
  obtain ⟨⟨xt, xb, xs⟩, xr⟩ := x
  have putc : putD (putD xt oj.dst fj.v) oi.dst fi.v = putD (putD xt oi.dst fi.v) oj.dst fj.v := putD_comm a2
  -- where j stands in the state that i left
  have evj : ∀ (y' : DX), y'.1.tmps = putD xt oi.dst fi.v → (∀ i, loadsAt (ev xt) oj i → Nat.testBit fj.m i = true → blk? y'.1.blks i = blk? xb i) → evalF P G T ops oj nj y' = some fj := by
    intro y' ht hb
    exact evalF_same (x := (⟨xt, xb, xs⟩, xr)) (by rw [ht]; exact sameAt_put a3) ej hb
  rcases kj with hA | ⟨bj, hA, hnewj⟩ | ⟨ij, pj', csj, hA, hputj⟩
  · -- j leaves memory alone
    rw [applyF_idle hA] at pj
    obtain ⟨oj1, rfl⟩ := pj
    have evi : evalF P G T ops oi ni (⟨xt, xb, xs⟩, xr) = some fi := evalF_same (y := (⟨xt, xb, xs⟩, xr)) (fun t ht => (sameAt_put (v := fj.v) (tm := xt) a1 t ht).symm) ei (fun _ _ _ => rfl)
    rcases ki with hB | ⟨bi, hB, hnewi⟩ | ⟨ii, pi', csi, hB, hputi⟩
    · rw [applyF_idle hB] at pi
      obtain ⟨oi1, rfl⟩ := pi
      rw [oldOk_put a2] at oi1
      refine ⟨_, stepF_mk evi ((applyF_idle hB).2 ⟨oi1, rfl⟩), stepF_mk (evj _ rfl fun _ _ _ => rfl) ((applyF_idle hA).2 ⟨by rw [oldOk_put a2']; exact oj1, ?_⟩)⟩
      simp only [putc, Nat.or_assoc, Nat.or_comm fj.m]
    · rw [applyF_new hB] at pi
      obtain ⟨oi1, okn, rfl⟩ := pi
      rw [oldOk_put a2] at oi1
      simp only [newOk, Bool.and_eq_true] at okn
      obtain ⟨f1, f2, f3, f4, f5, f6⟩ := okn
      have f1' := freeL_putD hni oj1 f1
      refine ⟨_, stepF_mk evi ((applyF_new hB).2 ⟨oi1, by simp only [newOk, Bool.and_eq_true]; exact ⟨f1', f2, f3, f4, f5, f6⟩, rfl⟩),
        stepF_mk (evj _ rfl fun i hl hm => ?_) ((applyF_idle hA).2 ⟨by rw [oldOk_put a2']; exact oj1, ?_⟩)⟩
      · exact blk?_setB_ne _ _ _ _ (loadsAt_free f1' hl).symm
      · simp only [putc, Nat.or_assoc, Nat.or_comm fj.m]
    · rw [applyF_put hB] at pi
      obtain ⟨oi1, b, hb, hc, rfl⟩ := pi
      rw [oldOk_put a2] at oi1
      simp only [Bool.and_eq_true, Bool.or_eq_true, Bool.not_eq_true'] at hc
      refine ⟨_, stepF_mk evi ((applyF_put hB).2 ⟨oi1, b, hb, ?_, rfl⟩), stepF_mk (evj _ rfl fun i hl hm => ?_) ((applyF_idle hA).2 ⟨by rw [oldOk_put a2']; exact oj1, ?_⟩)⟩
      · simp only [Bool.and_eq_true, Bool.or_eq_true, Bool.not_eq_true']
        refine ⟨hc.1, hc.2.imp id fun h => ?_⟩
        rw [Nat.testBit_or, Bool.or_eq_false_iff] at h
        exact h.1
      · refine blk?_setB_ne _ _ _ _ ?_
        rintro rfl
        rcases hc.2 with h | h
        · have := hs h
          rw [mj this] at hm
          simp at hm
        · rw [Nat.testBit_or, Bool.or_eq_false_iff] at h
          rw [h.2] at hm; simp at hm
      · simp only [putc, Nat.or_assoc, Nat.or_comm fj.m]
  · -- j makes a block
    rw [applyF_new hA] at pj
    obtain ⟨oj1, okn, rfl⟩ := pj
    simp only [newOk, Bool.and_eq_true] at okn
    obtain ⟨g1, g2, g3, g4, g5, g6⟩ := okn
    have hlj : isLoad oj = false := by obtain ⟨dst, op, type, pos, after, guard⟩ := oj; cases op <;> simp_all [isNew, isLoad]
    have hnone : blk? xb nj = none := by cases hb : blk? xb nj <;> simp [hb, isNone'] at g5 ⊢
    have evi : evalF P G T ops oi ni (⟨xt, xb, xs⟩, xr) = some fi := by
      refine evalF_same (y := (⟨xt, xb, xs⟩, xr)) (fun t ht => (sameAt_put (v := fj.v) (tm := xt) a1 t ht).symm) ei fun i hl hm => ?_
      refine (blk?_setB_ne _ _ _ _ ?_).symm
      have hl' : loadsAt (ev xt) oi i := by
        obtain ⟨t, xo, p, hop, hp⟩ := hl
        refine ⟨t, xo, p, hop, ?_⟩
        rw [← hp]
        exact (ev_same (sameAt_put (ops := ops) (v := fj.v) (tm := xt) a1) xo (by rw [hop]; simp [Op.operands]))
      exact (loadsAt_free g1 hl').symm
    obtain ⟨fv, fb⟩ := evalF_free (k := nj) (x := (⟨xt, xb, xs⟩, xr)) g1 g3 (fun hi => (hn hnewj hi).symm) evi
    rcases ki with hB | ⟨bi, hB, hnewi⟩ | ⟨ii, pi', csi, hB, hputi⟩
    · rw [applyF_idle hB] at pi
      obtain ⟨oi1, rfl⟩ := pi
      rw [oldOk_put a2] at oi1
      refine ⟨_, stepF_mk evi ((applyF_idle hB).2 ⟨oi1, rfl⟩), stepF_mk (evj _ rfl fun i hl hm => rfl)
        ((applyF_new hA).2 ⟨by rw [oldOk_put a2']; exact oj1, by simp only [newOk, Bool.and_eq_true]; exact ⟨freeL_putD' g1 fv, g2, g3, g4, g5, g6⟩, ?_⟩)⟩
      simp only [putc, Nat.or_assoc, Nat.or_comm fj.m]
    · rw [applyF_new hB] at pi
      obtain ⟨oi1, okn, rfl⟩ := pi
      rw [oldOk_put a2] at oi1
      simp only [newOk, Bool.and_eq_true] at okn
      obtain ⟨f1, f2, f3, f4, f5, f6⟩ := okn
      have hne := hn hnewj hnewi
      have f1' := freeL_putD hni oj1 f1
      rw [blk?_setB_ne _ _ _ _ hne] at f5
      rw [setB_len] at f6
      refine ⟨_, stepF_mk evi ((applyF_new hB).2 ⟨oi1, by simp only [newOk, Bool.and_eq_true]; exact ⟨f1', f2, freeB_setB f3 hnone, f4, f5, f6⟩, rfl⟩),
        stepF_mk (evj _ rfl fun i hl hm => ?_) ((applyF_new hA).2 ⟨by rw [oldOk_put a2']; exact oj1, ?_, ?_⟩)⟩
      · exact blk?_setB_ne _ _ _ _ (loadsAt_free f1' hl).symm
      · simp only [newOk, Bool.and_eq_true]
        exact ⟨freeL_putD' g1 fv, g2, freeB_setB' g3 (fb _ _ hB), g4, by rw [blk?_setB_ne _ _ _ _ hne.symm]; exact g5, by rw [setB_len]; exact g6⟩
      · simp only [putc, Nat.or_assoc, Nat.or_comm fj.m, setB_comm xb nj ni _ _ hne]
    · exact absurd hnewj (by simp [(c2 hputi).1])
  · -- j stores
    obtain ⟨l1, l2, l3⟩ := c1 hputj
    rw [applyF_put hA] at pj
    obtain ⟨oj1, b, hb, hc, rfl⟩ := pj
    rcases ki with hB | ⟨bi, hB, hnewi⟩ | ⟨ii, pi', csi, hB, hputi⟩
    · rw [applyF_idle hB] at pi
      obtain ⟨oi1, rfl⟩ := pi
      rw [oldOk_put a2] at oi1
      have evi : evalF P G T ops oi ni (⟨xt, xb, xs⟩, xr) = some fi := by
        refine evalF_same (y := (⟨xt, xb, xs⟩, xr)) (fun t ht => (sameAt_put (v := fj.v) (tm := xt) a1 t ht).symm) ei fun i hl hm => ?_
        rw [mi l1] at hm; simp at hm
      have hm0 := mi l1
      have hlj : isLoad oj = false := by obtain ⟨dst, op, type, pos, after, guard⟩ := oj; cases op <;> simp_all [isPut, isLoad]
      refine ⟨_, stepF_mk evi ((applyF_idle hB).2 ⟨oi1, rfl⟩), stepF_mk (evj _ rfl fun i hl hm => rfl) ((applyF_put hA).2 ⟨by rw [oldOk_put a2']; exact oj1, b, hb, ?_, ?_⟩)⟩
      · rw [hm0]; simpa using hc
      · simp only [putc, Nat.or_assoc, Nat.or_comm fj.m]
    · rw [l2] at hnewi; simp at hnewi
    · rw [l3] at hputi; simp at hputi
end
end Go.Wk
