/- The walk by evaluation, part D1: what an operation looks at, and which blocks it may name. Conditions: none. -/
import Derived.Test.YtbbplkdjcgdaaaaDoorWkG
set_option autoImplicit false
set_option linter.unusedVariables false
set_option linter.unusedSimpArgs false
set_option linter.unnecessarySimpa false
namespace Go.Wk
open Go Go.RowKit

def isLoad (o : Oper) : Bool := match o.op with
  | .load _ _ => true
  | _ => false
def isPut (o : Oper) : Bool := match o.op with
  | .store _ _ _ => true
  | _ => false

section
variable {P : Program} {G : Glob} {T : Tab}

theorem bif_some {α : Type} {c : Bool} {x : Option α} {y : α} (h : (bif c then x else none) = some y) : x = some y := by cases c <;> simp_all
theorem map_e {e e' : Operand → SV} {l : List Operand} (h : ∀ x ∈ l, e x = e' x) : l.map e = l.map e' := List.map_congr_left h
theorem map_p {e e' : Operand → SV} {l : List (Nat × Operand)} (h : ∀ x ∈ l.map (·.2), e x = e' x) : (l.map fun p => (p.1, e p.2)) = l.map fun p => (p.1, e' p.2) :=
  List.map_congr_left fun p hp => by rw [h p.2 (List.mem_map.2 ⟨p, hp, rfl⟩)]

theorem calleeOf_congr {e e' : Operand → SV} {c : Call} (h : ∀ x ∈ c.operands, e x = e' x) : calleeOf e c = calleeOf e' c := by
  have ha : c.args.toList.map e = c.args.toList.map e' := map_e fun x hx => h x (by simp [Call.operands]; right; simpa using hx)
  unfold calleeOf
  cases hc : c.callee with
  | value f => simp only [h f (by simp [Call.operands, hc]), ha]
  | invoke r m => rfl
  | builtin b => rfl
theorem callV_congr {e e' : Operand → SV} {c : Call} (h : ∀ x ∈ c.operands, e x = e' x) : callV P T e c = callV P T e' c := by
  have ha : c.args.toList.map e = c.args.toList.map e' := map_e fun x hx => h x (by simp [Call.operands]; right; simpa using hx)
  have hb : ∀ x, lnth? c.args.toList 0 = some x → e x = e' x := fun x hx => h x (by rw [lnth?_eq] at hx; simp [Call.operands]; right; exact Array.mem_of_getElem? (by simpa using hx))
  unfold callV
  cases hc : c.callee with
  | value f => simp only [calleeOf_congr h]
  | invoke r m => rfl
  | builtin b =>
    cases b <;> simp only [ha]
    cases h1 : lnth? c.args.toList 0 with
    | none => rfl
    | some x => simp only [hb x h1]

theorem opV_congr {bl bl' : List (Option LB)} {e e' : Operand → SV} (o : Oper) (h : ∀ x ∈ o.op.operands, e x = e' x) (hl : isLoad o = false) : opV P G T bl e o = opV P G T bl' e' o := by
  obtain ⟨dst, op, type, pos, after, guard⟩ := o
  cases op <;> simp only [Op.operands] at h <;> simp only [opV]
  case load => simp [isLoad] at hl
  case build t ps => rw [map_p (e' := e') fun x hx => h x (by simpa using hx)]
  case makeFunc f p c => rw [map_e (l := p.toList) (e' := e') fun x hx => h x (by simp at hx; simp [hx]), map_e (l := c.toList) (e' := e') fun x hx => h x (by simp at hx; simp [hx])]
  case call c => exact callV_congr h
  case slice t x lo hi mx =>
    have h1 : e x = e' x := h x (by simp)
    have h2 : lo.map e = lo.map e' := by cases lo <;> simp_all
    have h3 : hi.map e = hi.map e' := by cases hi <;> simp_all
    rw [h1, h2, h3]
  case move x => rw [h x (by simp)]
  case assign x => rw [h x (by simp)]
  case pick c x y => rw [h c (by simp), h x (by simp), h y (by simp)]
  case nilCheck x => rw [h x (by simp)]
  case binOp op t x y yt => rw [h x (by simp), h y (by simp)]
  case unOp op t x => rw [h x (by simp)]
  case convert s d x => rw [h x (by simp)]
  case makeInterface t x => rw [h x (by simp)]
  case fieldAddr s x f => rw [h x (by simp)]
  case field s x f => rw [h x (by simp)]
  case indexAddr t x i => rw [h x (by simp), h i (by simp)]
  case index t x i => rw [h x (by simp), h i (by simp)]
  case extract x i => rw [h x (by simp)]
theorem opN_congr {e e' : Operand → SV} (o : Oper) (h : ∀ x ∈ o.op.operands, e x = e' x) : opN P e o = opN P e' o := by
  obtain ⟨dst, op, type, pos, after, guard⟩ := o
  cases op <;> simp only [Op.operands] at h <;> simp only [opN]
  case box t x => rw [h x (by simp)]
  case buildSlice t n ps => rw [map_p (e' := e') fun x hx => h x (by simpa using hx)]
theorem opP_congr {e e' : Operand → SV} (o : Oper) (h : ∀ x ∈ o.op.operands, e x = e' x) : opP P e o = opP P e' o := by
  obtain ⟨dst, op, type, pos, after, guard⟩ := o
  cases op <;> simp only [Op.operands] at h <;> simp only [opP]
  case store t x v => rw [h x (by simp), h v (by simp)]

/-! which blocks a value may name -/
theorem freeL_append {k : Nat} : ∀ {l m : List SV}, SV.freeL k l = true → SV.freeL k m = true → SV.freeL k (l ++ m) = true
  | [], _, _, h => h
  | x :: l, m, h, h' => by simp only [SV.freeL, Bool.and_eq_true, List.cons_append] at h ⊢; exact ⟨h.1, freeL_append h.2 h'⟩
theorem freeL_take {k : Nat} : ∀ {l : List SV} (n : Nat), SV.freeL k l = true → SV.freeL k (l.take n) = true
  | [], n, h => by simp [SV.freeL]
  | x :: l, 0, h => by simp [SV.freeL]
  | x :: l, n + 1, h => by simp only [SV.freeL, Bool.and_eq_true, List.take_succ_cons] at h ⊢; exact ⟨h.1, freeL_take n h.2⟩
theorem freeL_drop {k : Nat} : ∀ {l : List SV} (n : Nat), SV.freeL k l = true → SV.freeL k (l.drop n) = true
  | [], n, h => by simp [SV.freeL]
  | x :: l, 0, h => by simpa using h
  | x :: l, n + 1, h => by simp only [SV.freeL, Bool.and_eq_true] at h; simpa using freeL_drop n h.2
theorem freeL_vals {k : Nat} : ∀ (l : List Value), SV.freeL k (l.map .val) = true
  | [] => by simp [SV.freeL]
  | x :: l => by simp only [List.map_cons, SV.freeL, SV.free, Bool.true_and]; exact freeL_vals l
theorem free_nth {k : Nat} : ∀ {l : List SV} (t : Nat), SV.freeL k l = true → SV.free k (nth l t) = true
  | [], _, _ => by simp [nth, SV.free]
  | x :: l, 0, h => by simp only [SV.freeL, Bool.and_eq_true] at h; simpa [nth] using h.1
  | x :: l, t + 1, h => by simp only [SV.freeL, Bool.and_eq_true] at h; simpa [nth] using free_nth t h.2
theorem free_nth? {k : Nat} : ∀ {l : List SV} {t : Nat} {s : SV}, SV.freeL k l = true → nth? l t = some s → SV.free k s = true
  | [], _, _, _, h => by simp [nth?] at h
  | x :: l, 0, s, h, e => by simp only [SV.freeL, Bool.and_eq_true] at h; simp only [nth?, Option.some.injEq] at e; subst e; exact h.1
  | x :: l, t + 1, s, h, e => by simp only [SV.freeL, Bool.and_eq_true] at h; simp only [nth?] at e; exact free_nth? h.2 e
theorem freeL_splice {k : Nat} {l cs : List SV} (o : Nat) (h : SV.freeL k l = true) (hc : SV.freeL k cs = true) : SV.freeL k (splice l o cs) = true := by
  rw [splice_eq]; exact freeL_append (freeL_take _ h) (freeL_append hc (freeL_drop _ h))
theorem free_mkAgg {k : Nat} {l : List SV} (h : SV.freeL k l = true) : SV.free k (mkAgg l) = true := by
  unfold mkAgg; split
  · simp [SV.free]
  · simpa [SV.free] using h
theorem free_mkFn {k : Nat} {f : Fn} {p c : List SV} (h : SV.freeL k p = true) (hc : SV.freeL k c = true) : SV.free k (mkFn f p c) = true := by
  unfold mkFn
  split
  · split
    · simp [SV.free]
    · simp [SV.free, h, hc]
  · simp [SV.free, h, hc]
theorem free_cellsOf {k : Nat} {s : SV} {cs : List SV} (h : cellsOf s = some cs) (hf : SV.free k s = true) : SV.freeL k cs = true := by
  cases s with
  | val v => cases v <;> simp only [cellsOf, Option.some.injEq, reduceCtorEq] at h <;> subst h <;> first | exact freeL_vals _ | simp [SV.freeL, SV.free]
  | agg l => simp only [cellsOf, Option.some.injEq] at h; subst h; simpa [SV.free] using hf
  | tup l => simp [cellsOf] at h
  | unk => simp [cellsOf] at h
  | _ => simp only [cellsOf, Option.some.injEq] at h; subst h; simp only [SV.freeL, Bool.and_true]; exact hf
theorem free_aggOf {k : Nat} {s : SV} {l : List SV} (h : aggOf s = some l) (hf : SV.free k s = true) : SV.freeL k l = true := by
  unfold aggOf at h
  split at h
  · simp only [Option.some.injEq] at h; subst h; exact freeL_vals _
  · simp only [Option.some.injEq] at h; subst h; simpa [SV.free] using hf
  · simp at h
theorem free_partS {k : Nat} {t : TypeId} {l : List SV} {off : Nat} {v : SV} (h : partS P t l off = some v) (hf : SV.freeL k l = true) : SV.free k v = true := by
  unfold partS at h
  split at h
  · split at h <;> simp only [Option.some.injEq, reduceCtorEq] at h
    subst h; exact free_mkAgg (freeL_take _ (freeL_drop _ hf))
  · exact free_nth? hf h
  · simp at h
theorem free_fillL {k : Nat} {place : Nat → Option (Nat × Nat)} : ∀ {parts : List (Nat × SV)} {cells r : List SV}, (∀ p ∈ parts, SV.free k p.2 = true) → SV.freeL k cells = true → fillL place cells parts = some r → SV.freeL k r = true
  | [], cells, r, _, hc, h => by simp only [fillL, Option.some.injEq] at h; subst h; exact hc
  | (i, v) :: rest, cells, r, hp, hc, h => by
    simp only [fillL] at h
    split at h <;> try (simp at h; done)
    split at h <;> try (simp at h; done)
    rename_i off size _ _ cs hcs
    cases hb : Nat.beq cs.length size && Nat.ble (off + cs.length) cells.length with
    | false => simp [hb] at h
    | true =>
      simp only [hb, cond_true] at h
      exact free_fillL (fun p hp' => hp p (List.mem_cons_of_mem _ hp')) (freeL_splice off hc (free_cellsOf hcs (hp (i, v) (by simp)))) h
theorem free_loadL {k : Nat} {cells : List SV} {o : Nat} {ag : Bool} {sz : Nat} {s : SV} (h : loadL cells o ag sz = some s) (hf : SV.freeL k cells = true) : SV.free k s = true := by
  unfold loadL at h
  cases ag with
  | true =>
    simp only [cond_true] at h
    cases hb : Nat.ble (o + sz) cells.length with
    | false => simp [hb] at h
    | true => simp only [hb, cond_true, Option.some.injEq] at h; subst h; exact free_mkAgg (freeL_take _ (freeL_drop _ hf))
  | false => simp only [cond_false] at h; exact free_nth? hf h
theorem free_loadE {k : Nat} {bl : List (Option LB)} {t : TypeId} {s v : SV} (h : loadE P G bl t s = some v) (hf : freeB k bl = true) : SV.free k v = true := by
  unfold loadE at h
  split at h <;> try (simp at h; done)
  split at h <;> try (simp at h; done)
  split at h <;> try (simp at h; done)
  · split at h <;> try (simp at h; done)
    rename_i b hb
    exact free_loadL h (freeB_at hf hb)
  · split at h <;> try (simp at h; done)
    exact free_loadL h (freeL_vals _)
theorem free_buildE {k : Nat} {t : TypeId} {parts : List (Nat × SV)} {v : SV} (h : buildE P t parts = some v) (hp : ∀ p ∈ parts, SV.free k p.2 = true) : SV.free k v = true := by
  unfold buildE at h
  split at h <;> try (simp at h; done)
  split at h <;> try (simp at h; done)
  · split at h <;> try (simp at h; done)
    split at h <;> try (simp at h; done)
    rename_i l hl
    simp only [Option.some.injEq] at h; subst h
    exact free_mkAgg (free_fillL hp (freeL_vals _) hl)
  · split at h <;> try (simp at h; done)
    split at h <;> try (simp at h; done)
    rename_i l hl
    simp only [Option.some.injEq] at h; subst h
    exact free_mkAgg (free_fillL hp (freeL_vals _) hl)
theorem freeL_map {k : Nat} {e : Operand → SV} (h : ∀ x, SV.free k (e x) = true) : ∀ (l : List Operand), SV.freeL k (l.map e) = true
  | [] => by simp [SV.freeL]
  | x :: l => by simp only [List.map_cons, SV.freeL, Bool.and_eq_true]; exact ⟨h x, freeL_map h l⟩
theorem free_pickE {k : Nat} {c x y v : SV} (h : pickE c x y = some v) (hx : SV.free k x = true) (hy : SV.free k y = true) : SV.free k v = true := by
  unfold pickE at h
  split at h <;> try (simp at h; done)
  rename_i b
  split at h
  · split at h
    · simp only [Option.some.injEq] at h; subst h; simp [SV.free]
    · cases b <;> simp only [cond_true, cond_false, Option.some.injEq] at h <;> subst h <;> assumption
  · cases b <;> simp only [cond_true, cond_false, Option.some.injEq] at h <;> subst h <;> assumption
theorem free_extractE {k : Nat} {x v : SV} {i : Nat} (h : extractE x i = some v) (hx : SV.free k x = true) : SV.free k v = true := by
  unfold extractE at h
  split at h <;> try (simp at h; done)
  · split at h <;> simp only [Option.some.injEq, reduceCtorEq] at h; subst h; simp [SV.free]
  · exact free_nth? (by simpa [SV.free] using hx) h

theorem opV_free {k : Nat} {bl : List (Option LB)} {e : Operand → SV} {o : Oper} {ok : Bool} {v : SV} (he : ∀ x, SV.free k (e x) = true) (hb : freeB k bl = true) (h : opV P G T bl e o = some (ok, v)) : SV.free k v = true := by
  obtain ⟨dst, op, type, pos, after, guard⟩ := o
  cases op <;> simp only [opV] at h <;> try (simp at h; done)
  case move x => simp only [Option.some.injEq, Prod.mk.injEq] at h; rw [← h.2]; exact he x
  case assign x => simp only [Option.some.injEq, Prod.mk.injEq] at h; rw [← h.2]; exact he x
  case pick c x y =>
    split at h <;> simp only [Option.some.injEq, Prod.mk.injEq, reduceCtorEq] at h
    rename_i u hu; rw [← h.2]; exact free_pickE hu (he x) (he y)
  case load t x =>
    split at h <;> simp only [Option.some.injEq, Prod.mk.injEq, reduceCtorEq] at h
    rename_i u hu; rw [← h.2]; exact free_loadE hu hb
  case build t ps =>
    split at h <;> simp only [Option.some.injEq, Prod.mk.injEq, reduceCtorEq] at h
    rename_i u hu; rw [← h.2]
    refine free_buildE hu fun p hp => ?_
    simp only [List.mem_map] at hp
    obtain ⟨q, _, rfl⟩ := hp
    exact he q.2
  case nilCheck x =>
    split at h <;> simp only [Option.some.injEq, Prod.mk.injEq, reduceCtorEq] at h
    rename_i u hu; rw [← h.2]
    have hx := he x
    unfold nilE at hu
    split at hu <;> simp only [Option.some.injEq, reduceCtorEq] at hu <;> (rename_i heq; subst hu; rw [heq] at hx; exact hx)
  case binOp op t x y yt =>
    split at h <;> try (simp at h; done)
    split at h <;> try (simp at h; done)
    split at h <;> simp only [Option.some.injEq, Prod.mk.injEq, reduceCtorEq] at h
    rw [← h.2]; simp [SV.free]
  case unOp op t x =>
    split at h <;> try (simp at h; done)
    split at h <;> simp only [Option.some.injEq, Prod.mk.injEq, reduceCtorEq] at h
    rw [← h.2]; simp [SV.free]
  case convert s d x =>
    split at h <;> try (simp at h; done)
    split at h <;> simp only [Option.some.injEq, Prod.mk.injEq, reduceCtorEq] at h
    rw [← h.2]; simp [SV.free]
  case makeInterface t x =>
    split at h <;> simp only [Option.some.injEq, Prod.mk.injEq, reduceCtorEq] at h
    rename_i u hu; rw [← h.2]
    unfold ifcE at hu
    split at hu <;> try (simp at hu; done)
    split at hu <;> simp only [Option.some.injEq] at hu <;> subst hu
    · simp [SV.free]
    · simpa [SV.free] using he x
  case makeFunc f p c =>
    simp only [Option.some.injEq, Prod.mk.injEq] at h; rw [← h.2]
    exact free_mkFn (freeL_map he _) (freeL_map he _)
  case fieldAddr s x f =>
    split at h <;> simp only [Option.some.injEq, Prod.mk.injEq, reduceCtorEq] at h
    rename_i u hu; rw [← h.2]
    have hx := he x
    unfold fieldAddrE at hu
    split at hu <;> try (simp at hu; done)
    split at hu <;> try (simp at hu; done)
    split at hu <;> try (simp at hu; done)
    rename_i n _
    cases hn : Nat.beq n 0 with
    | true => simp [hn] at hu
    | false =>
      simp only [hn, cond_false] at hu
      split at hu <;> simp only [Option.some.injEq, reduceCtorEq] at hu <;> (rename_i heq; subst hu; rw [heq] at hx; simpa [SV.free] using hx)
  case field s x f =>
    split at h <;> simp only [Option.some.injEq, Prod.mk.injEq, reduceCtorEq] at h
    rename_i u hu; rw [← h.2]
    unfold fieldE at hu
    split at hu <;> try (simp at hu; done)
    split at hu <;> try (simp at hu; done)
    split at hu <;> try (simp at hu; done)
    rename_i l hl
    exact free_partS hu (free_aggOf hl (he x))
  case indexAddr t x i =>
    have hx := he x
    unfold indexAddrE at h
    split at h <;> try (simp at h; done)
    split at h <;> try (simp at h; done)
    all_goals
      split at h <;> try (simp at h; done)
      split at h <;> simp only [Option.some.injEq, Prod.mk.injEq, reduceCtorEq] at h <;> (rename_i heq; rw [← h.2]; rw [heq] at hx; simpa [SV.free] using hx)
  case index t x i =>
    unfold indexE at h
    split at h <;> try (simp at h; done)
    split at h <;> try (simp at h; done)
    · split at h <;> try (simp at h; done)
      split at h <;> try (simp at h; done)
      rename_i l hl
      have h2 := bif_some h
      split at h2 <;> simp only [Option.some.injEq, Prod.mk.injEq, reduceCtorEq] at h2
      rename_i u hu
      rw [← h2.2]
      exact free_partS hu (free_aggOf hl (he x))
    · split at h <;> simp only [Option.some.injEq, Prod.mk.injEq, reduceCtorEq] at h
      rw [← h.2]; simp [SV.free]
  case slice t x lo hi mx =>
    have hx := he x
    split at h <;> try (simp at h; done)
    unfold sliceE at h
    split at h <;> try (simp at h; done)
    · split at h <;> try (simp at h; done)
      split at h <;> try (simp at h; done)
      split at h <;> simp only [Option.some.injEq, Prod.mk.injEq, reduceCtorEq] at h
      rw [← h.2]; simp [SV.free]
    all_goals
      split at h <;> try (simp at h; done)
      split at h <;> try (simp at h; done)
      rename_i heq
      split at h <;> try (simp at h; done)
      split at h <;> simp only [Option.some.injEq, Prod.mk.injEq, reduceCtorEq] at h
      rw [← h.2]; rw [heq] at hx; simpa [SV.free] using hx
  case extract x i =>
    split at h <;> simp only [Option.some.injEq, Prod.mk.injEq, reduceCtorEq] at h
    rename_i u hu; rw [← h.2]; exact free_extractE hu (he x)
  case call c =>
    unfold callV at h
    split at h
    · split at h <;> try (simp at h; done)
      · split at h <;> try (simp at h; done)
        split at h <;> try (simp at h; done)
        split at h <;> simp only [Option.some.injEq, Prod.mk.injEq, reduceCtorEq] at h
        rw [← h.2]; simp [SV.free]
      all_goals
        split at h <;> try (simp at h; done)
        split at h <;> simp only [Option.some.injEq, Prod.mk.injEq, reduceCtorEq] at h
        rw [← h.2]; simp [SV.free]
    · simp at h
    · split at h <;> try (simp at h; done)
      split at h <;> try (simp at h; done)
      split at h <;> try (simp at h; done)
      split at h <;> simp only [Option.some.injEq, Prod.mk.injEq, reduceCtorEq] at h
      rw [← h.2]; simp [SV.free]
theorem opN_free {k : Nat} {e : Operand → SV} {o : Oper} {cs : List SV} {el : TypeId} {n : Option Nat} (he : ∀ x, SV.free k (e x) = true) (h : opN P e o = some (cs, el, n)) : SV.freeL k cs = true := by
  obtain ⟨dst, op, type, pos, after, guard⟩ := o
  cases op <;> simp only [opN] at h <;> try (simp at h; done)
  case alloc t =>
    split at h <;> simp only [Option.some.injEq, Prod.mk.injEq, reduceCtorEq] at h
    rw [← h.1]; exact freeL_vals _
  case box t x =>
    split at h <;> simp only [Option.some.injEq, Prod.mk.injEq, reduceCtorEq] at h
    rename_i c hc
    rw [← h.1]; exact free_cellsOf hc (he x)
  case buildSlice t m ps =>
    split at h <;> try (simp at h; done)
    split at h <;> try (simp at h; done)
    split at h <;> try (simp at h; done)
    rename_i sz _ _ z _
    cases hle : (Nat.ble (m * sz) 16777216 && !(Nat.beq (m * sz) 0)) with
    | false => simp [hle] at h
    | true =>
      simp only [hle, cond_true] at h
      split at h <;> simp only [Option.some.injEq, Prod.mk.injEq, reduceCtorEq] at h
      rename_i c hc
      rw [← h.1]
      refine free_fillL (fun p hp => ?_) (freeL_vals _) hc
      simp only [List.mem_map] at hp
      obtain ⟨q, _, rfl⟩ := hp
      exact he q.2
end
end Go.Wk
