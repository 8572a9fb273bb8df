/- The walk by evaluation, part D5: branches that only compute are joined again; The walk by evaluation, part D7: a cell of a short list of whole numbers, read at any place; The walk by evaluation, part H: what the evaluator answers, the model does; The walk by evaluation, part I: tables of functions that are known, how arguments are taken apart, and flat data; The walk by evaluation, part L: loops that are known; Loops whose rounds are told one by one; Numbers of 64 bits: how they wrap. Conditions: none. -/
import Derived.Test.YtmadebejnhinoaaDoorX3
import Derived.Test.YtmadebejnhinoaaDoorX2
import Derived.Laws.BytesString
import Derived.ProofKit
import Derived.OpenShut
import Derived.LaidMore
import Derived.Carry

set_option autoImplicit false
set_option linter.unusedVariables false
set_option linter.unusedSimpArgs false
set_option linter.unnecessarySimpa false
namespace Go.Wk
noncomputable section
open Go Go.RowKit

def okOp (o : Oper) : Bool := match o.guard with
  | some _ => false
  | none => match o.op with
    | .move _ => true
    | .assign _ => true
    | .load _ _ => true
    | .build _ _ => true
    | .unOp _ _ _ => true
    | .convert _ _ _ => true
    | .fieldAddr _ _ _ => true
    | .field _ _ _ => true
    | .extract _ _ => true
    | .call _ => true
    | .binOp _ _ _ _ _ => true
    | .index _ _ _ => true
    | .indexAddr _ _ _ => true
    | _ => false
def okOps : List Oper → Bool
  | [] => true
  | o :: r => okOp o && okOps r
/-- the temporary by which an operation writes -/
def adrO (o : Oper) : Option Nat := match o.op with
  | .store _ (.tmp t) _ => some t
  | _ => none
def okOpS (o : Oper) : Bool := okOp o || (match o.guard with
  | some _ => false
  | none => match adrO o with
    | some _ => true
    | none => false)
def okOpsS : List Oper → Bool
  | [] => true
  | o :: r => okOpS o && okOpsS r
def okC (gl : Bool) : Code → Bool
  | .skip => true
  | .region _ ops draw => (gl && (hasG ops.toList && okOpsG ops.toList)) || (bif draw then okOps ops.toList else okOpsS ops.toList)
  | .seq a b => okC gl a && okC gl b
  | .cond _ a b => okC gl a && okC gl b
  | _ => false
def mergeV (b : Bool) (u v : SV) : SV := match u with
  | .val (.int k n) => match v with
    | .val (.int k' m) => bif decide (k = k') then .val (.int k (bif b then n else m)) else .unk
    | _ => .unk
  | .val (.bool n) => match v with
    | .val (.bool m) => .val (.bool (bif b then n else m))
    | _ => .unk
  | .val (.string n) => match v with
    | .val (.string m) => .val (.string (bif b then n else m))
    | _ => .unk
  | .ptr i o => match v with
    | .ptr i' o' => bif Nat.beq i i' && Nat.beq o o' then u else .unk
    | _ => .unk
  | .glob i o => match v with
    | .glob i' o' => bif Nat.beq i i' && Nat.beq o o' then u else .unk
    | _ => .unk
  | .dl c xs => match v with
    | .dl c' ys => match castL c c' xs with
      | some zs => .dl c' (bif b then zs else ys)
      | none => .unk
    | _ => .unk
  | _ => .unk
def dsts : Code → List Nat
  | .region _ ops _ => ops.toList.filterMap (·.dst)
  | .seq a b => dsts a ++ dsts b
  | .cond _ a b => dsts a ++ dsts b
  | _ => []
def adr : Code → List Nat
  | .region _ ops _ => ops.toList.filterMap adrO
  | .seq a b => adr a ++ adr b
  | .cond _ a b => adr a ++ adr b
  | _ => []
def root : SV → Option Nat
  | .ptr i _ => some i
  | _ => none
def touched (tm : List SV) : List Nat → List Nat
  | [] => []
  | t :: r => match root (nth tm t) with
    | some i => i :: touched tm r
    | none => touched tm r
def disj : List Nat → List Nat → Bool
  | [], _ => true
  | t :: r, ws => !memN t ws && disj r ws
def mergeA (b : Bool) : List SV → List SV → List SV
  | u :: us, v :: vs => mergeV b u v :: mergeA b us vs
  | _, _ => []
def mergeO (b : Bool) (x y : Option LB) : Option LB := match x with
  | some cx => match y with
    | some cy => bif Nat.beq cx.elem cy.elem && Nat.beq cx.cells.length cy.cells.length then some ⟨mergeA b cx.cells cy.cells, cx.elem⟩ else none
    | none => none
  | none => none
def mergeB (b : Bool) (tl : List Nat) : Nat → List (Option LB) → List (Option LB) → List (Option LB)
  | i, x :: xs, y :: ys => (bif memN i tl then mergeO b x y else x) :: mergeB b tl (i + 1) xs ys
  | _, _, _ => []
def mergeL (b : Bool) (ws : List Nat) : Nat → List SV → List SV → List SV
  | i, u :: us, v :: vs => (bif memN i ws then mergeV b u v else u) :: mergeL b ws (i + 1) us vs
  | _, _, _ => []

section
variable (P : Program) (G : Glob) (T : Tab)
/-- operations in a row, with what must hold -/
def exOpsB (ops : Array Oper) : List Oper → St → Option (Bool × St)
  | [], st => some (true, st)
  | o :: os, st => match inlineOf T (ev st.tmps) o with
    | some _ => none
    | none => match opV P G T st.blks (ev st.tmps) o with
      | some (ok, v) => match exOpsB ops os { st with tmps := putD st.tmps o.dst v } with
        | some (ok', r) => some (ok && ok', r)
        | none => none
      | none => match opP P (ev st.tmps) o with
        | some (i, p, cs) => match stPut st o.dst i p cs with
          | some st' => exOpsB ops os st'
          | none => none
        | none => none
def exDsB (ops : Array Oper) (n0 : Nat) : List Oper → Nat → DX → Option (Bool × DX)
  | [], _, x => some (true, x)
  | o :: os, i, x => match opV P G T x.1.blks (ev x.1.tmps) o with
    | some (ok, v) => match applyF n0 (strongB ops i o 0 ops.toList) o.dst ⟨v, rdOf (ev x.1.tmps) o, .idle⟩ x with
      | some y => match exDsB ops n0 os (i + 1) y with
        | some (ok', r) => some (ok && ok', r)
        | none => none
      | none => none
    | none => none
def exDB (ops : Array Oper) (st : St) : Option (Bool × St) :=
  bif swapOK ops then (match exDsB P G T ops st.blks.length ops.toList 0 (st, 0) with
    | some (ok, x) => some (ok, x.1)
    | none => none) else none
variable (gl : Bool)
def exQ : Code → St → Option (Bool × St)
  | .skip, st => some (true, st)
  | .region _ ops draw, st => match (bif gl then exG P G T ops draw st else none) with
    | some (ok, r) => forceS r fun r => some (ok, r)
    | none => bif draw then (bif okOps ops.toList then (match exDB P G T ops st with
      | some (ok, r) => forceS r fun r => some (ok, r)
      | none => none) else none)
      else (bif okOpsS ops.toList then (match exOpsB P G T ops ops.toList st with
      | some (ok, r) => forceS r fun r => some (ok, r)
      | none => none) else none)
  | .seq a b, st => match exQ a st with
    | some (ok, st') => match exQ b st' with
      | some (ok', r) => some (ok && ok', r)
      | none => none
    | none => none
  | .cond c x y, st => bif disj (adr x ++ adr y) (dsts x ++ dsts y) then (match ev st.tmps c with
    | .val (.bool b) => match exQ x st with
      | some (ox, sx) => match exQ y st with
        | some (oy, sy) => forceS { tmps := mergeL b (dsts x ++ dsts y) 0 sx.tmps sy.tmps, blks := mergeB b (touched st.tmps (adr x ++ adr y)) 0 sx.blks sy.blks, saved := st.saved } fun r => some ((ox && oy) || (bif b then ox else oy), r)
        | none => none
      | none => none
    | _ => none) else none
  | _, _ => none
end

/-- what a computing piece leaves alone -/
structure Kept (ws as : List Nat) (st r : St) : Prop where
  blks : ∀ i, memN i (touched st.tmps as) = false → blk? r.blks i = blk? st.blks i
  bl : r.blks.length = st.blks.length
  saved : r.saved = st.saved
  len : r.tmps.length = st.tmps.length
  tmps : ∀ t, memN t ws = false → nth r.tmps t = nth st.tmps t
theorem memN_iff : ∀ {l : List Nat} {t : Nat}, memN t l = true ↔ t ∈ l
  | [], t => by simp [memN]
  | x :: r, t => by
    simp only [memN, Bool.or_eq_true, List.mem_cons, memN_iff (l := r)]
    constructor
    · rintro (h | h)
      · exact .inl (Nat.eq_of_beq_eq_true h).symm
      · exact .inr h
    · rintro (rfl | h)
      · exact .inl (by simp)
      · exact .inr h
theorem mem_touched {tm : List SV} {i : Nat} : ∀ {as : List Nat}, i ∈ touched tm as ↔ ∃ t ∈ as, root (nth tm t) = some i
  | [] => by simp [touched]
  | t :: r => by
    simp only [touched]
    split
    · rename_i j hj
      simp only [List.mem_cons, mem_touched (as := r), exists_eq_or_imp, hj, Option.some.injEq]
      constructor
      · rintro (rfl | h)
        · exact .inl rfl
        · exact .inr h
      · rintro (rfl | h)
        · exact .inl rfl
        · exact .inr h
    · rename_i hj
      simp only [List.mem_cons, mem_touched (as := r), exists_eq_or_imp, hj, reduceCtorEq, false_or]
theorem memN_no {l : List Nat} {t : Nat} : memN t l = false ↔ t ∉ l := by
  cases h : memN t l with
  | true => simp [memN_iff.1 h]
  | false =>
    simp only [true_iff]
    intro hm
    rw [memN_iff.2 hm] at h
    simp at h
theorem touched_same {ws as : List Nat} {a b : St} (hd : ∀ t ∈ as, memN t ws = false) (h : ∀ t, memN t ws = false → nth b.tmps t = nth a.tmps t) (i : Nat) : i ∈ touched b.tmps as ↔ i ∈ touched a.tmps as := by
  simp only [mem_touched]
  constructor
  · rintro ⟨t, ht, e⟩; exact ⟨t, ht, by rw [← h t (hd t ht)]; exact e⟩
  · rintro ⟨t, ht, e⟩; exact ⟨t, ht, by rw [h t (hd t ht)]; exact e⟩
theorem disj_spec : ∀ {as ws : List Nat}, disj as ws = true → ∀ t ∈ as, memN t ws = false
  | [], _, _, t, ht => by simp at ht
  | a :: r, ws, h, t, ht => by
    simp only [disj, Bool.and_eq_true, Bool.not_eq_true'] at h
    rcases List.mem_cons.1 ht with rfl | ht
    · exact h.1
    · exact disj_spec h.2 t ht
theorem Kept.refl (ws as : List Nat) (st : St) : Kept ws as st st := ⟨fun _ _ => rfl, rfl, rfl, rfl, fun _ _ => rfl⟩
theorem Kept.trans {ws as : List Nat} {a b c : St} (hd : ∀ t ∈ as, memN t ws = false) (h : Kept ws as a b) (k : Kept ws as b c) : Kept ws as a c :=
  ⟨fun i hi => (k.blks i (by rw [memN_no] at hi ⊢; rwa [touched_same hd h.tmps])).trans (h.blks i hi), k.bl.trans h.bl, k.saved.trans h.saved, k.len.trans h.len, fun t ht => (k.tmps t ht).trans (h.tmps t ht)⟩
theorem setN_len : ∀ (l : List SV) (d : Nat) (v : SV), (setN l d v).length = l.length
  | [], _, _ => rfl
  | _ :: _, 0, _ => rfl
  | _ :: l, d + 1, v => by simp [setN, setN_len l d v]
theorem Kept.put {ws as : List Nat} {st : St} {d : Option Tmp} {v : SV} (h : ∀ t, d = some t → t ∈ ws) : Kept ws as st { st with tmps := putD st.tmps d v } := by
  refine ⟨fun _ _ => rfl, rfl, rfl, ?_, ?_⟩
  · cases d <;> simp [putD, setN_len]
  · intro t ht
    refine nth_putD fun k hk e => ?_
    subst e
    have := memN_iff.2 (h _ hk)
    rw [ht] at this
    simp at this
theorem Kept.store {ws as : List Nat} {st st' : St} {d : Option Tmp} {i p : Nat} {cs : List SV} (h : ∀ t, d = some t → t ∈ ws) (hp : stPut st d i p cs = some st') (hi : i ∈ touched st.tmps as) : Kept ws as st st' := by
  unfold stPut at hp
  split at hp <;> try (simp at hp; done)
  obtain ⟨_, hp⟩ := bif_t hp
  simp only [Option.some.injEq] at hp
  subst hp
  have k := Kept.put (as := as) (st := st) (v := .val undef) h
  exact ⟨fun j hj => blk?_setB_ne _ _ _ _ (fun e => by subst e; exact memN_no.1 hj hi), setB_len _ _ _, rfl, k.len, k.tmps⟩

section
variable {P : Program} {G : Glob} {T : Tab} {base : Bs}

theorem okOp_new {o : Oper} (h : okOp o = true) : isNew o = false ∧ isPut o = false ∧ o.guard = none := by
  obtain ⟨dst, op, type, pos, after, guard⟩ := o
  unfold okOp at h
  simp only at h
  split at h
  · simp at h
  · cases op <;> simp_all [isNew, isPut]

theorem okOpS_new {o : Oper} (h : okOpS o = true) : isNew o = false ∧ o.guard = none ∧ (isPut o = true → ∃ t ty v, o.op = .store ty (.tmp t) v) := by
  unfold okOpS at h
  simp only [Bool.or_eq_true] at h
  rcases h with h | h
  · obtain ⟨h1, h2, h3⟩ := okOp_new h
    exact ⟨h1, h3, fun e => by rw [h2] at e; simp at e⟩
  · obtain ⟨dst, op, type, pos, after, guard⟩ := o
    split at h <;> try (simp at h; done)
    rename_i hg
    simp only at hg
    split at h <;> try (simp at h; done)
    rename_i t ht
    unfold adrO at ht
    simp only at ht
    split at ht <;> try (simp at ht; done)
    rename_i ty t' v
    exact ⟨rfl, hg, fun _ => ⟨_, _, _, rfl⟩⟩
theorem opP_store {e : Operand → SV} {o : Oper} {ty : TypeId} {x v : Operand} {i p : Nat} {cs : List SV} (ho : o.op = .store ty x v) (h : opP P e o = some (i, p, cs)) : ∃ q, e x = .ptr i q := by
  unfold opP at h
  rw [ho] at h
  simp only at h
  split at h <;> try (simp at h; done)
  rename_i i' p' hx
  split at h <;> try (simp at h; done)
  split at h <;> try (simp at h; done)
  obtain ⟨_, h⟩ := bif_t h
  simp only [Option.some.injEq, Prod.mk.injEq] at h
  exact ⟨p', by rw [hx, h.1]⟩
theorem exOpsB_kept {ops : Array Oper} {ws as : List Nat} (hd : ∀ t ∈ as, memN t ws = false) : ∀ (os : List Oper) (st r : St) (ok : Bool), okOpsS os = true → (∀ o ∈ os, ∀ t, o.dst = some t → t ∈ ws) → (∀ o ∈ os, ∀ t, adrO o = some t → t ∈ as) → exOpsB P G T ops os st = some (ok, r) → Kept ws as st r
  | [], st, r, ok, _, _, _, h => by simp only [exOpsB, Option.some.injEq, Prod.mk.injEq] at h; rw [← h.2]; exact .refl _ _ _
  | o :: os, st, r, ok, hok, hws, has, h => by
    simp only [okOpsS, Bool.and_eq_true] at hok
    obtain ⟨h1, h3, h2⟩ := okOpS_new hok.1
    simp only [exOpsB] at h
    have rest := fun st r ok => exOpsB_kept (ops := ops) hd os st r ok hok.2 (fun o' ho' => hws o' (by simp [ho'])) (fun o' ho' => has o' (by simp [ho']))
    split at h <;> try (simp at h; done)
    split at h
    · split at h <;> try (simp at h; done)
      rename_i ok' r' hr
      simp only [Option.some.injEq, Prod.mk.injEq] at h
      rw [← h.2]
      exact (Kept.put (fun t ht => hws o (by simp) t ht)).trans hd (rest _ _ _ hr)
    · split at h <;> try (simp at h; done)
      rename_i i p cs hp
      have := opP_put hp
      obtain ⟨t, ty, v, ho⟩ := h2 this
      split at h <;> try (simp at h; done)
      rename_i st' hst
      obtain ⟨q, hq⟩ := opP_store ho hp
      refine (Kept.store (fun t ht => hws o (by simp) t ht) hst ?_).trans hd (rest _ _ _ h)
      rw [mem_touched]
      refine ⟨t, has o (by simp) t (by simp [adrO, ho]), ?_⟩
      simp only [ev] at hq
      rw [hq]; rfl
theorem exOpsB_spec {ops : Array Oper} : ∀ (os : List Oper) (n : Nat) (st r : St) (ok : Bool), okOpsS os = true → exOpsB P G T ops os st = some (ok, r) → ok = true → exOps P G T (fun _ _ _ => none) ops os n st some = some r
  | [], n, st, r, ok, _, h, _ => by simp only [exOpsB, Option.some.injEq, Prod.mk.injEq] at h; simp [exOps, h.2]
  | o :: os, n, st, r, ok, hok, h, e => by
    simp only [okOpsS, Bool.and_eq_true] at hok
    obtain ⟨h1, h3, h2⟩ := okOpS_new hok.1
    simp only [exOpsB] at h
    simp only [exOps, stepE, gd, h3, stepRun]
    split at h <;> try (simp at h; done)
    rename_i hi
    simp only [hi]
    split at h
    · rename_i ok1 v hv
      simp only [hv]
      split at h <;> try (simp at h; done)
      rename_i ok' r' hr
      simp only [Option.some.injEq, Prod.mk.injEq] at h
      obtain ⟨ha, hb⟩ := h
      subst hb
      rw [← ha] at e
      simp only [Bool.and_eq_true] at e
      rw [e.1]
      simp only [cond_true]
      exact exOpsB_spec os _ _ _ _ hok.2 hr e.2
    · rename_i hv
      simp only [hv]
      have hn : opN P (ev st.tmps) o = none := by
        cases hn : opN P (ev st.tmps) o with
        | none => rfl
        | some r => have := opN_new hn; rw [h1] at this; simp at this
      simp only [hn]
      split at h <;> try (simp at h; done)
      rename_i i p cs hp
      simp only [hp]
      split at h <;> try (simp at h; done)
      rename_i st' hst
      simp only [hst]
      exact exOpsB_spec os _ _ _ _ hok.2 h e
theorem exDsB_kept {ops : Array Oper} {ws as : List Nat} (hd : ∀ t ∈ as, memN t ws = false) {n0 : Nat} : ∀ (os : List Oper) (i : Nat) (x y : DX) (ok : Bool), (∀ o ∈ os, ∀ t, o.dst = some t → t ∈ ws) → exDsB P G T ops n0 os i x = some (ok, y) → Kept ws as x.1 y.1
  | [], i, x, y, ok, _, h => by simp only [exDsB, Option.some.injEq, Prod.mk.injEq] at h; rw [← h.2]; exact .refl _ _ _
  | o :: os, i, x, y, ok, hws, h => by
    simp only [exDsB] at h
    split at h <;> try (simp at h; done)
    split at h <;> try (simp at h; done)
    rename_i z hz
    split at h <;> try (simp at h; done)
    rename_i ok' r hr
    simp only [Option.some.injEq, Prod.mk.injEq] at h
    rw [← h.2]
    have hrest := exDsB_kept hd os _ _ _ _ (fun o' ho' => hws o' (by simp [ho'])) hr
    obtain ⟨_, rfl⟩ := (applyF_idle rfl).1 hz
    exact (Kept.put (st := x.1) (fun t ht => hws o (by simp) t ht)).trans hd hrest
theorem exDsB_spec {ops : Array Oper} {n0 : Nat} : ∀ (os : List Oper) (i n : Nat) (x y : DX) (ok : Bool), okOps os = true → exDsB P G T ops n0 os i x = some (ok, y) → ok = true → exDs P G T ops n0 os i n x (fun x => some x.1) = some y.1
  | [], i, n, x, y, ok, _, h, _ => by simp only [exDsB, Option.some.injEq, Prod.mk.injEq] at h; simp [exDs, h.2]
  | o :: os, i, n, x, y, ok, hok, h, e => by
    simp only [okOps, Bool.and_eq_true] at hok
    obtain ⟨h1, h2, h3⟩ := okOp_new hok.1
    simp only [exDsB] at h
    simp only [exDs, stepD, gd, h3, runD]
    split at h <;> try (simp at h; done)
    rename_i ok1 v hv
    simp only [hv]
    split at h <;> try (simp at h; done)
    rename_i z hz
    split at h <;> try (simp at h; done)
    rename_i ok' r hr
    simp only [Option.some.injEq, Prod.mk.injEq] at h
    obtain ⟨ha, hb⟩ := h
    subst hb
    rw [← ha] at e
    simp only [Bool.and_eq_true] at e
    rw [e.1]
    simp only [cond_true, apD, hz]
    exact exDsB_spec os _ _ _ _ _ hok.2 hr e.2
theorem news_ok : ∀ {l : List Oper}, okOps l = true → news l = 0
  | [], _ => rfl
  | o :: r, h => by
    simp only [okOps, Bool.and_eq_true] at h
    simp [news, (okOp_new h.1).1, news_ok h.2]

/-- A COMPUTING PIECE: what it answers, the model does. -/
def GoodP (P : Program) (G : Glob) (c : Code) (st r : St) : Prop :=
  ∀ (base : Bs) (ρ : Rf) (a : Act) (sv : List (List Value)) (w : World) (Q : Exit → Act → World → Prop), SRel G base ρ st a sv w →
    (∀ ρ' a' w', SRel G base ρ' r a' sv w' → Kp base.kp w w' → Q .normal a' w') → c.wp P Q a w

theorem recNone : RecOK (R := St) P G [] (fun _ _ _ => none) := by intro c st k r _ h; simp at h

theorem mergeV_l {ρ : Rf} {u v : SV} {x : Value} (h : SV.rl ρ u x) : SV.rl ρ (mergeV true u v) x := by
  unfold mergeV
  split
  · rename_i k n
    split
    · rename_i k' m
      by_cases hk : k = k'
      · subst hk; simpa using h
      · simp [hk, SV.rl]
    · simp [SV.rl]
  · split
    · exact h
    · simp [SV.rl]
  · split
    · exact h
    · simp [SV.rl]
  · split
    · rename_i i o _ i' o'
      cases hb : (Nat.beq i i' && Nat.beq o o') with
      | true => exact h
      | false => simp [SV.rl]
    · simp [SV.rl]
  · split
    · rename_i i o _ i' o'
      cases hb : (Nat.beq i i' && Nat.beq o o') with
      | true => exact h
      | false => simp [SV.rl]
    · simp [SV.rl]
  · split
    · split
      · rename_i hz; obtain ⟨rfl, hz⟩ := castL_eq hz; cases hz; simpa using h
      · simp [SV.rl]
    · simp [SV.rl]
  · simp [SV.rl]
theorem mergeV_r {ρ : Rf} {u v : SV} {x : Value} (h : SV.rl ρ v x) : SV.rl ρ (mergeV false u v) x := by
  unfold mergeV
  split
  · rename_i k n
    split
    · rename_i k' m
      by_cases hk : k = k'
      · subst hk; simpa using h
      · simp [hk, SV.rl]
    · simp [SV.rl]
  · split
    · exact h
    · simp [SV.rl]
  · split
    · exact h
    · simp [SV.rl]
  · split
    · rename_i i o _ i' o'
      cases hb : (Nat.beq i i' && Nat.beq o o') with
      | true =>
        simp only [Bool.and_eq_true] at hb
        rw [Nat.eq_of_beq_eq_true hb.1, Nat.eq_of_beq_eq_true hb.2]; exact h
      | false => simp [SV.rl]
    · simp [SV.rl]
  · split
    · rename_i i o _ i' o'
      cases hb : (Nat.beq i i' && Nat.beq o o') with
      | true =>
        simp only [Bool.and_eq_true] at hb
        rw [Nat.eq_of_beq_eq_true hb.1, Nat.eq_of_beq_eq_true hb.2]; exact h
      | false => simp [SV.rl]
    · simp [SV.rl]
  · split
    · split
      · simpa using h
      · simp [SV.rl]
    · simp [SV.rl]
  · simp [SV.rl]
theorem mergeA_l {ρ : Rf} : ∀ {us vs : List SV} {xs : List Value}, us.length = vs.length → SV.rls ρ us xs → SV.rls ρ (mergeA true us vs) xs
  | [], [], [], _, h => by simp [mergeA, SV.rls]
  | u :: us, v :: vs, x :: xs, hl, h => by
    simp only [SV.rls] at h
    simp only [mergeA, SV.rls]
    exact ⟨mergeV_l h.1, mergeA_l (by simpa using hl) h.2⟩
  | [], _, _ :: _, _, h => by simp [SV.rls] at h
  | _ :: _, _, [], _, h => by simp [SV.rls] at h
  | [], _ :: _, _, h, _ => by simp at h
  | _ :: _, [], _, h, _ => by simp at h
theorem mergeA_r {ρ : Rf} : ∀ {us vs : List SV} {xs : List Value}, us.length = vs.length → SV.rls ρ vs xs → SV.rls ρ (mergeA false us vs) xs
  | [], [], [], _, h => by simp [mergeA, SV.rls]
  | u :: us, v :: vs, x :: xs, hl, h => by
    simp only [SV.rls] at h
    simp only [mergeA, SV.rls]
    exact ⟨mergeV_r h.1, mergeA_r (by simpa using hl) h.2⟩
  | _, [], _ :: _, _, h => by simp [SV.rls] at h
  | _, _ :: _, [], _, h => by simp [SV.rls] at h
  | [], _ :: _, _, h, _ => by simp at h
  | _ :: _, [], _, h, _ => by simp at h
theorem mergeB_blk {b : Bool} {tl : List Nat} : ∀ (i j : Nat) {xs ys : List (Option LB)}, xs.length = ys.length → blk? (mergeB b tl i xs ys) j = bif memN (i + j) tl then mergeO b (blk? xs j) (blk? ys j) else blk? xs j
  | i, j, [], [], _ => by simp only [mergeB, blk?, mergeO]; cases memN (i + j) tl <;> rfl
  | i, 0, x :: xs, y :: ys, _ => by simp only [mergeB, blk?, Nat.add_zero]
  | i, j + 1, x :: xs, y :: ys, h => by simp only [mergeB, blk?]; rw [mergeB_blk (i + 1) j (by simpa using h), show i + 1 + j = i + (j + 1) by omega]
  | _, _, [], _ :: _, h => by simp at h
  | _, _, _ :: _, [], h => by simp at h
theorem mergeB_len {b : Bool} {tl : List Nat} : ∀ (i : Nat) {xs ys : List (Option LB)}, xs.length = ys.length → (mergeB b tl i xs ys).length = xs.length
  | i, [], [], _ => by simp [mergeB]
  | i, x :: xs, y :: ys, hl => by simp [mergeB, mergeB_len (i + 1) (xs := xs) (ys := ys) (by simpa using hl)]
  | _, [], _ :: _, h => by simp at h
  | _, _ :: _, [], h => by simp at h
theorem mergeO_some {b : Bool} {x y : Option LB} {c : LB} (h : mergeO b x y = some c) : ∃ cx cy, x = some cx ∧ y = some cy ∧ cx.elem = cy.elem ∧ cx.cells.length = cy.cells.length ∧ c = ⟨mergeA b cx.cells cy.cells, cx.elem⟩ := by
  unfold mergeO at h
  split at h <;> try (simp at h; done)
  split at h <;> try (simp at h; done)
  obtain ⟨h1, h⟩ := bif_t h
  simp only [Bool.and_eq_true] at h1
  simp only [Option.some.injEq] at h
  exact ⟨_, _, rfl, rfl, Nat.eq_of_beq_eq_true h1.1, Nat.eq_of_beq_eq_true h1.2, h.symm⟩
theorem mergeB_M {G : Glob} {base : Bs} {ρ : Rf} {tl : List Nat} {xs ys : List (Option LB)} {w : World} (b : Bool) (hl : xs.length = ys.length) (hsame : ∀ i, memN i tl = false → blk? xs i = blk? ys i) (M : MRel G base ρ (bif b then xs else ys) w) : MRel G base ρ (mergeB b tl 0 xs ys) w := by
  have key : ∀ i c, blk? (mergeB b tl 0 xs ys) i = some c → ∃ c0, blk? (bif b then xs else ys) i = some c0 ∧ c.elem = c0.elem ∧ ∀ vs, SV.rls ρ c0.cells vs → SV.rls ρ c.cells vs := by
    intro i c hc
    rw [mergeB_blk 0 i hl, Nat.zero_add] at hc
    cases hm : memN i tl with
    | true =>
      rw [hm] at hc
      simp only [cond_true] at hc
      obtain ⟨cx, cy, h1, h2, h3, h4, rfl⟩ := mergeO_some hc
      cases b with
      | true => exact ⟨cx, h1, rfl, fun vs hv => mergeA_l h4 hv⟩
      | false => exact ⟨cy, h2, h3, fun vs hv => mergeA_r h4 hv⟩
    | false =>
      rw [hm] at hc
      simp only [cond_false] at hc
      cases b with
      | true => exact ⟨c, hc, rfl, fun _ h => h⟩
      | false => exact ⟨c, by simp only [cond_false]; rw [← hsame i hm]; exact hc, rfl, fun _ h => h⟩
  refine ⟨M.gl, M.glt, ?_, ?_, M.sz, M.fz, fun i c hc => ?_, M.fb, fun k s v hk => (M.tk k s v hk).move fun g _ _ _ h4 => ⟨rfl, fun _ h => h, fun i c hc => ?_⟩, M.ti⟩
  rotate_left 2
  · obtain ⟨c0, h1, h2, _⟩ := key i c hc
    exact M.fn i c0 h1
  · obtain ⟨c0, h1, h2, _⟩ := key i c hc
    exact h4 i c0 h1
  · intro i c hc
    obtain ⟨c0, h1, h2, h3⟩ := key i c hc
    obtain ⟨vs, hx, hr, hb⟩ := M.bk i c0 h1
    exact ⟨vs, by rw [h2]; exact hx, h3 vs hr, hb⟩
  · intro i j c e hc he
    obtain ⟨c0, h1, _⟩ := key i c hc
    obtain ⟨e0, h2, _⟩ := key j e he
    exact M.inj i j c0 e0 h1 h2
theorem mergeL_l {ρ : Rf} {ws : List Nat} : ∀ (i : Nat) {us vs : List SV} {xs : List Value}, us.length = vs.length → SV.rls ρ us xs → SV.rls ρ (mergeL true ws i us vs) xs
  | i, [], [], [], _, h => by simp [mergeL, SV.rls]
  | i, u :: us, v :: vs, x :: xs, hl, h => by
    simp only [SV.rls] at h
    simp only [mergeL, SV.rls]
    refine ⟨?_, mergeL_l (i + 1) (by simpa using hl) h.2⟩
    cases memN i ws with
    | true => exact mergeV_l h.1
    | false => exact h.1
  | _, [], _, _ :: _, _, h => by simp [SV.rls] at h
  | _, _ :: _, _, [], _, h => by simp [SV.rls] at h
  | _, [], _ :: _, _, h, _ => by simp at h
  | _, _ :: _, [], _, h, _ => by simp at h
theorem mergeL_r {ρ : Rf} {ws : List Nat} : ∀ (i : Nat) {us vs : List SV} {xs : List Value}, us.length = vs.length → (∀ t, memN (i + t) ws = false → nth us t = nth vs t) → SV.rls ρ vs xs → SV.rls ρ (mergeL false ws i us vs) xs
  | i, [], [], [], _, _, h => by simp [mergeL, SV.rls]
  | i, u :: us, v :: vs, x :: xs, hl, ht, h => by
    simp only [SV.rls] at h
    simp only [mergeL, SV.rls]
    refine ⟨?_, mergeL_r (i + 1) (by simpa using hl) (fun t hm => by have := ht (t + 1) (by rwa [show i + (t + 1) = i + 1 + t by omega]); simpa [nth] using this) h.2⟩
    cases hm : memN i ws with
    | true => exact mergeV_r h.1
    | false => have := ht 0 (by simpa using hm); simp only [nth] at this; rw [this]; exact h.1
  | _, _, [], _ :: _, _, _, h => by simp [SV.rls] at h
  | _, _, _ :: _, [], _, _, h => by simp [SV.rls] at h
  | _, [], _ :: _, _, h, _, _ => by simp at h
  | _, _ :: _, [], _, h, _, _ => by simp at h
theorem mergeL_nth {b : Bool} {ws : List Nat} : ∀ (i t : Nat) {us vs : List SV}, us.length = vs.length → memN (i + t) ws = false → nth (mergeL b ws i us vs) t = nth us t
  | i, t, [], [], _, _ => by simp [mergeL]
  | i, 0, u :: us, v :: vs, _, h => by simp only [mergeL, nth]; simp only [Nat.add_zero] at h; rw [h]; rfl
  | i, t + 1, u :: us, v :: vs, hl, h => by simp only [mergeL, nth]; exact mergeL_nth (i + 1) t (by simpa using hl) (by rwa [show i + 1 + t = i + (t + 1) by omega])
  | _, _, [], _ :: _, h, _ => by simp at h
  | _, _, _ :: _, [], h, _ => by simp at h
theorem mergeL_len {b : Bool} {ws : List Nat} : ∀ (i : Nat) {us vs : List SV}, us.length = vs.length → (mergeL b ws i us vs).length = us.length
  | i, [], [], _ => by simp [mergeL]
  | i, u :: us, v :: vs, hl => by simp [mergeL, mergeL_len (i + 1) (us := us) (vs := vs) (by simpa using hl)]
  | _, [], _ :: _, h => by simp at h
  | _, _ :: _, [], h => by simp at h

theorem matchO {α β : Type} {x : Option (α × β)} {p : α × β} (h : (match x with | some (a, b) => some (a, b) | none => none) = some p) : x = some p := by
  cases x with
  | none => simp at h
  | some y => exact h
theorem exGs_kept {ops : Array Oper} {bl : List (Option LB)} {ws : List Nat} : ∀ (os : List Oper) (tm tm' : List SV) (gs gs' : GL) (ok : Bool), (∀ o ∈ os, ∀ t, o.dst = some t → t ∈ ws) → exGs P G T ops bl os tm gs = some (ok, tm', gs') →
    tm'.length = tm.length ∧ (∀ t, memN t ws = false → nth tm' t = nth tm t ∧ isKey t gs' = isKey t gs)
  | [], tm, tm', gs, gs', ok, _, h => by
    simp only [exGs, Option.some.injEq, Prod.mk.injEq] at h
    obtain ⟨_, rfl, rfl⟩ := h
    exact ⟨rfl, fun _ _ => ⟨rfl, rfl⟩⟩
  | o :: os, tm, tm', gs, gs', ok, hw, h => by
    simp only [exGs, forceL_eq] at h
    split at h <;> try (simp at h; done)
    rename_i g hg
    obtain ⟨_, h⟩ := bif_t h
    split at h <;> try (simp at h; done)
    rename_i ok1 v hv
    split at h <;> try (simp at h; done)
    rename_i ok2 r hr
    simp only [Option.some.injEq, Prod.mk.injEq] at h
    obtain ⟨_, rfl⟩ := h
    obtain ⟨h1, h2⟩ := exGs_kept os _ _ _ _ _ (fun o' ho' => hw o' (by simp [ho'])) hr
    refine ⟨by rw [h1, putD_len], fun t ht => ?_⟩
    have hne : ∀ d, o.dst = some d → d ≠ t := by
      intro d hd he
      subst he
      have := memN_iff.2 (hw o (by simp) d hd)
      rw [this] at ht; simp at ht
    obtain ⟨h3, h4⟩ := h2 t ht
    refine ⟨by rw [h3, nth_putD (fun k hk => hne k hk)], ?_⟩
    rw [h4]
    unfold addG
    cases hd : o.dst with
    | none => rfl
    | some d =>
      cases g with
      | nil => rfl
      | cons x r =>
        simp only [isKey]
        cases hb : Nat.beq d t with
        | false => rfl
        | true => exact absurd (Nat.eq_of_beq_eq_true hb) (hne d hd)
theorem exG_kept {ops : Array Oper} {draw : Bool} {st r : St} {ok : Bool} {ws as : List Nat} (hw : ∀ o ∈ ops.toList, ∀ t, o.dst = some t → t ∈ ws) (h : exG P G T ops draw st = some (ok, r)) : Kept ws as st r := by
  unfold exG at h
  obtain ⟨_, h⟩ := bif_t h
  split at h <;> try (simp at h; done)
  rename_i ok' tm gs hx
  simp only [Option.some.injEq, Prod.mk.injEq] at h
  obtain ⟨_, rfl⟩ := h
  obtain ⟨h1, h2⟩ := exGs_kept ops.toList _ _ _ _ _ hw hx
  refine ⟨fun _ _ => rfl, rfl, rfl, by show (stripL gs 0 tm).length = _; rw [stripL_len, h1], fun t ht => ?_⟩
  obtain ⟨h3, h4⟩ := h2 t ht
  show nth (stripL gs 0 tm) t = nth st.tmps t
  rcases Nat.lt_or_ge t tm.length with hl | hl
  · rw [stripL_nth 0 t tm hl, Nat.zero_add, h4]
    simp only [isKey, cond_false]
    exact h3
  · rw [nth_out (by rw [stripL_len]; exact hl), nth_out (by rw [← h1]; exact hl)]
theorem exQ_kept {gl : Bool} {ws as : List Nat} (hd : ∀ t ∈ as, memN t ws = false) : ∀ (c : Code) (st r : St) (ok : Bool), (∀ t ∈ dsts c, t ∈ ws) → (∀ t ∈ adr c, t ∈ as) → exQ P G T gl c st = some (ok, r) → Kept ws as st r := by
  intro c
  induction c with
  | skip =>
    intro st r ok _ _ h
    simp only [exQ, Option.some.injEq, Prod.mk.injEq] at h; rw [← h.2]
    exact .refl _ _ _
  | region id ops draw =>
    intro st r ok hw ha h
    simp only [exQ, forceS_eq] at h
    have hws : ∀ o ∈ ops.toList, ∀ t, o.dst = some t → t ∈ ws := fun o ho t ht => hw t (by simp only [dsts, List.mem_filterMap]; exact ⟨o, ho, ht⟩)
    have has : ∀ o ∈ ops.toList, ∀ t, adrO o = some t → t ∈ as := fun o ho t ht => ha t (by simp only [adr, List.mem_filterMap]; exact ⟨o, ho, ht⟩)
    split at h
    · rename_i ok' r' hg
      simp only [Option.some.injEq, Prod.mk.injEq] at h
      rw [← h.2]
      cases gl with
      | true => exact exG_kept hws hg
      | false => simp at hg
    cases draw with
    | true =>
      simp only [cond_true] at h
      obtain ⟨hok, h0⟩ := bif_t h
      have h : exDB P G T ops st = some (ok, r) := by
        cases hx : exDB P G T ops st with
        | none => rw [hx] at h0; simp at h0
        | some p => obtain ⟨p1, p2⟩ := p; rw [hx] at h0; exact h0
      unfold exDB at h
      obtain ⟨_, h⟩ := bif_t h
      split at h <;> try (simp at h; done)
      rename_i ok' x hx
      simp only [Option.some.injEq, Prod.mk.injEq] at h
      rw [← h.2]
      exact exDsB_kept hd ops.toList _ _ _ _ hws hx
    | false =>
      simp only [cond_false] at h
      obtain ⟨hok, h0⟩ := bif_t h
      have h : exOpsB P G T ops ops.toList st = some (ok, r) := by
        cases hx : exOpsB P G T ops ops.toList st with
        | none => rw [hx] at h0; simp at h0
        | some p => obtain ⟨p1, p2⟩ := p; rw [hx] at h0; exact h0
      exact exOpsB_kept hd ops.toList _ r _ hok hws has h
  | seq x y ihx ihy =>
    intro st r ok hw ha h
    simp only [exQ, forceS_eq] at h
    split at h <;> try (simp at h; done)
    rename_i o1 st' hx
    split at h <;> try (simp at h; done)
    rename_i o2 r' h'
    simp only [Option.some.injEq, Prod.mk.injEq] at h
    rw [← h.2]
    exact (ihx _ _ _ (fun t ht => hw t (by simp [dsts, ht])) (fun t ht => ha t (by simp [adr, ht])) hx).trans hd (ihy _ _ _ (fun t ht => hw t (by simp [dsts, ht])) (fun t ht => ha t (by simp [adr, ht])) h')
  | cond c x y ihx ihy =>
    intro st r ok hw ha h
    simp only [exQ, forceS_eq] at h
    obtain ⟨hdj, h⟩ := bif_t h
    split at h <;> try (simp at h; done)
    rename_i b hc
    split at h <;> try (simp at h; done)
    rename_i ox sx hx
    split at h <;> try (simp at h; done)
    rename_i oy sy hy
    simp only [Option.some.injEq, Prod.mk.injEq] at h
    rw [← h.2]
    have k1 := ihx _ _ _ (fun t ht => hw t (by simp [dsts, ht])) (fun t ht => ha t (by simp [adr, ht])) hx
    have k2 := ihy _ _ _ (fun t ht => hw t (by simp [dsts, ht])) (fun t ht => ha t (by simp [adr, ht])) hy
    have hlen : sx.tmps.length = sy.tmps.length := k1.len.trans k2.len.symm
    have hbl : sx.blks.length = sy.blks.length := k1.bl.trans k2.bl.symm
    refine ⟨fun i hi => ?_, (mergeB_len 0 hbl).trans k1.bl, rfl, (mergeL_len 0 hlen).trans k1.len, fun t ht => ?_⟩
    · have hi' : memN i (touched st.tmps (adr x ++ adr y)) = false := by
        rw [memN_no, mem_touched] at hi ⊢
        rintro ⟨t, ht, e⟩
        exact hi ⟨t, ha t (by simpa [adr] using ht), e⟩
      simp only
      rw [mergeB_blk 0 i hbl, Nat.zero_add, hi']
      exact k1.blks i hi
    · have ht' : memN t (dsts x ++ dsts y) = false := by
        rw [memN_no] at ht ⊢
        exact fun h => ht (hw t (by simpa [dsts] using h))
      rw [mergeL_nth 0 t hlen (by simpa using ht')]
      exact k1.tmps t ht
  | _ => intro st r ok _ _ h; simp [exQ] at h

theorem exQ_ok {gl : Bool} (hM : P.follows .mixedOrders = true) (hN : NoCount P) (hT : TabOK P G T) : ∀ (c : Code) (st r : St) (ok : Bool), exQ P G T gl c st = some (ok, r) → ok = true → GoodP P G c st r := by
  intro c
  induction c with
  | skip =>
    intro st r ok h _
    simp only [exQ, Option.some.injEq, Prod.mk.injEq] at h; obtain ⟨_, rfl⟩ := h
    exact fun base ρ a sv w Q S hQ => wp_skip (hQ ρ a w S (Kp.refl _ _))
  | region id ops draw =>
    intro st r ok h e0
    simp only [exQ, forceS_eq] at h
    split at h
    · rename_i ok' r' hg
      simp only [Option.some.injEq, Prod.mk.injEq] at h
      obtain ⟨hE, rfl⟩ := h
      subst e0
      cases gl with
      | true =>
        subst hE
        exact fun base ρ a sv w Q S hQ => exG_good hM hN hT hg base ρ a sv w Q S fun e s ρ' a' w' ⟨he, hs⟩ S' hb => by subst he; subst hs; exact hQ ρ' a' w' S' hb
      | false => simp at hg
    cases draw with
    | true =>
      simp only [cond_true] at h
      obtain ⟨hok, h0⟩ := bif_t h
      have h : exDB P G T ops st = some (ok, r) := by
        cases hx : exDB P G T ops st with
        | none => rw [hx] at h0; simp at h0
        | some p => obtain ⟨p1, p2⟩ := p; rw [hx] at h0; exact h0
      unfold exDB at h
      obtain ⟨hsw, h⟩ := bif_t h
      split at h <;> try (simp at h; done)
      rename_i ok' x hx
      simp only [Option.some.injEq, Prod.mk.injEq] at h
      obtain ⟨hE, hr⟩ := h
      subst hr
      rw [← hE] at e0
      have h : exD P G T ops st some = some x.1 := by
        unfold exD
        rw [hsw]
        have := exDsB_spec ops.toList 0 st.blks.length (st, 0) x _ hok hx e0
        simp only [cond_true, news_ok hok, nones, List.append_nil]
        exact this
      refine fun base ρ a sv w Q S hQ => exD_wp hM hT h base ρ a sv w Q S fun e st' ρ' a' w' ⟨he, hk⟩ S' hb => ?_
      subst he
      simp only [Option.some.injEq] at hk
      subst hk
      exact hQ ρ' a' w' S' hb
    | false =>
      simp only [cond_false] at h
      obtain ⟨hok, h0⟩ := bif_t h
      have h : exOpsB P G T ops ops.toList st = some (ok, r) := by
        cases hx : exOpsB P G T ops ops.toList st with
        | none => rw [hx] at h0; simp at h0
        | some p => obtain ⟨p1, p2⟩ := p; rw [hx] at h0; exact h0
      have h := exOpsB_spec ops.toList st.blks.length st r ok hok h e0
      refine fun base ρ a sv w Q S hQ => wp_region_list (exOps_wp hN hT recNone ops.toList _ _ ρ a w S h fun st' ρ' a' w' hk S' hb => ?_)
      simp only [Option.some.injEq] at hk
      subst hk
      exact hQ ρ' a' w' S' hb
  | seq x y ihx ihy =>
    intro st r ok h e0
    simp only [exQ, forceS_eq] at h
    split at h <;> try (simp at h; done)
    rename_i o1 st' hx
    split at h <;> try (simp at h; done)
    rename_i o2 r' h'
    simp only [Option.some.injEq, Prod.mk.injEq] at h
    obtain ⟨hE, rfl⟩ := h
    rw [← hE] at e0
    simp only [Bool.and_eq_true] at e0
    have g1 := ihx _ _ _ hx e0.1
    have g2 := ihy _ _ _ h' e0.2
    exact fun base ρ a sv w Q S hQ => wp_seq (g1 base ρ a sv w _ S fun ρ' a' w' S' hb => g2 base ρ' a' sv w' Q S' fun ρ'' a'' w'' S'' hb' => hQ ρ'' a'' w'' S'' (hb.trans hb'))
  | cond c x y ihx ihy =>
    intro st r ok h e0
    simp only [exQ, forceS_eq] at h
    obtain ⟨hdj, h⟩ := bif_t h
    have hd := disj_spec hdj
    split at h <;> try (simp at h; done)
    rename_i b hc
    split at h <;> try (simp at h; done)
    rename_i ox sx hx
    split at h <;> try (simp at h; done)
    rename_i oy sy hy
    simp only [Option.some.injEq, Prod.mk.injEq] at h
    obtain ⟨hE, rfl⟩ := h
    rw [← hE] at e0
    have g1 := ihx _ _ _ hx
    have g2 := ihy _ _ _ hy
    have k1 := exQ_kept hd x _ _ _ (fun t ht => by simp [ht]) (fun t ht => by simp [ht]) hx
    have k2 := exQ_kept hd y _ _ _ (fun t ht => by simp [ht]) (fun t ht => by simp [ht]) hy
    have hlen : sx.tmps.length = sy.tmps.length := k1.len.trans k2.len.symm
    have hbl : sx.blks.length = sy.blks.length := k1.bl.trans k2.bl.symm
    have hsame : ∀ i, memN i (touched st.tmps (adr x ++ adr y)) = false → blk? sx.blks i = blk? sy.blks i := fun i hi => (k1.blks i hi).trans (k2.blks i hi).symm
    intro base ρ a sv w Q S hQ
    have hr := ev_rl S.tm c
    rw [hc] at hr
    simp only [SV.rl] at hr
    refine wp_cond hr ?_
    cases b with
    | true =>
      refine g1 (by cases ox <;> simp_all) base ρ a sv w Q S fun ρ' a' w' S' hb => hQ ρ' a' w' ⟨mergeL_l 0 hlen S'.tm, S'.df, ?_, mergeB_M true hbl hsame S'.M⟩ hb
      rw [← k1.saved]; exact S'.svd
    | false =>
      refine g2 (by cases oy <;> simp_all) base ρ a sv w Q S fun ρ' a' w' S' hb => hQ ρ' a' w' ⟨mergeL_r 0 hlen (fun t ht => ?_) S'.tm, S'.df, ?_, mergeB_M false hbl hsame S'.M⟩ hb
      · rw [k1.tmps t (by simpa using ht), k2.tmps t (by simpa using ht)]
      · rw [← k2.saved]; exact S'.svd
  | _ => intro st r ok h; simp [exQ] at h
end
end
end Go.Wk


set_option autoImplicit false
set_option linter.unusedVariables false
set_option linter.unusedSimpArgs false
set_option linter.unnecessarySimpa false
namespace Go.Wk
noncomputable section
open Go Go.RowKit

def intsS (k : IntKind) : List SV → Option (List Int)
  | [] => some []
  | .val (.int k' n) :: r => bif decide (k' = k) then (match intsS k r with
    | some l => some (n :: l)
    | none => none) else none
  | _ => none
theorem intsS_rls {ρ : Rf} {k : IntKind} : ∀ {cs : List SV} {l : List Int} {xs : List Value}, intsS k cs = some l → SV.rls ρ cs xs → xs = l.map (.int k)
  | [], l, [], h, _ => by simp only [intsS, Option.some.injEq] at h; subst h; rfl
  | .val (.int k' n) :: r, l, x :: xs, h, hr => by
    simp only [SV.rls, SV.rl] at hr
    obtain ⟨rfl, hr⟩ := hr
    simp only [intsS] at h
    by_cases e : k' = k
    · simp only [e, decide_true, cond_true] at h
      split at h
      · rename_i l' hl
        simp only [Option.some.injEq] at h
        subst h; subst e
        rw [intsS_rls hl hr]; rfl
      · simp at h
    · simp [e] at h
  | [], _, _ :: _, _, h => by simp [SV.rls] at h
  | _ :: _, _, [], _, h => by simp [SV.rls] at h
  | .val (.bool _) :: _, _, _, h, _ | .val (.float _ _) :: _, _, _, h, _ | .val (.complex _ _ _) :: _, _, _, h, _ | .val (.string _) :: _, _, _, h, _ | .val (.pointer _) :: _, _, _, h, _ | .val (.slice _ _ _) :: _, _, _, h, _
  | .val (.agg _) :: _, _, _, h, _ | .val (.tuple _) :: _, _, _, h, _ | .val (.func _ _ _) :: _, _, _, h, _ | .val (.iface _ _) :: _, _, _, h, _ | .val .nilIface :: _, _, _, h, _ | .val .nilFunc :: _, _, _, h, _
  | .glob _ _ :: _, _, _, h, _ | .ptr _ _ :: _, _, _, h, _ | .slc _ _ _ :: _, _, _, h, _ | .fn _ _ _ :: _, _, _, h, _ | .agg _ :: _, _, _, h, _ | .tup _ :: _, _, _, h, _ | .ifc _ _ :: _, _, _, h, _ | .unk :: _, _, _, h, _ => by simp [intsS] at h

def kindS : List SV → Option (IntKind × Nat)
  | .val (.int k _) :: r => some (k, r.length)
  | _ => none
/-- a text of one byte -/
def byte1 (n : Int) : ByteArray := ByteArray.empty.push (UInt8.ofNat n.toNat)
def convB (P : Program) (bl : List (Option LB)) (s d : TypeId) (x : SV) : Option (Bool × SV) := match x with
  | .slc i o n => bif Nat.beq n 1 then (match P.underlying s with
    | some (.slice el) => match P.underlying el with
      | some (.int .u8) => match P.underlying d with
        | some .string => match blk? bl i with
          | some b => match nth? b.cells o with
            | some (.val (.int .u8 n)) => some (true, .val (.string (byte1 n)))
            | _ => none
          | none => none
        | _ => none
      | _ => none
    | _ => none) else none
  | _ => none
def opA (P : Program) (bl : List (Option LB)) (e : Operand → SV) (o : Oper) : Option (Bool × SV) := match o.op with
  | .load t x => match e x with
    | .ptr i p => match agK P t with
      | some false => match blk? bl i with
        | some b => match kindS b.cells with
          | some (k, m) => bif Nat.blt 4 m then (match intsS k b.cells with
            | some l => some (Nat.blt p l.length, .val (.int k (l.getD p 0)))
            | none => none) else none
          | none => none
        | none => none
      | _ => none
    | _ => none
  | .convert s d x => convB P bl s d (e x)
  | .binOp op t x y _ => match e x with
    | .fn (.func _) _ _ => match e y with
      | .val .nilFunc => match P.underlying t with
        | some (.func _ _ _) => match op with
          | .eql => some (true, .val (.bool false))
          | .neq => some (true, .val (.bool true))
          | _ => none
        | _ => none
      | _ => none
    | _ => none
  | _ => none

section
variable {P : Program} {G : Glob} {T : Tab} {base : Bs} {R : Type}
theorem opA_wp {ρ : Rf} {st : St} {a : Act} {sv : List (List Value)} {w : World} {o : Oper} {v : SV} (S : SRel G base ρ st a sv w)
    (h : opA P st.blks (ev st.tmps) o = some (true, v)) {K : Act → World → Prop} {Q : Exit → Act → World → Prop}
    (hK : ∀ x, SV.rl ρ v x → K (a.put o.dst x) w) : o.wp P a w K Q := by
  obtain ⟨dst, op, type, pos, after, guard⟩ := o
  cases op <;> simp only [opA] at h <;> try (simp at h; done)
  case load t x =>
    have hx := ev_rl S.tm x
    split at h <;> try (simp at h; done)
    rename_i i p he
    rw [he] at hx
    split at h <;> try (simp at h; done)
    rename_i ha
    split at h <;> try (simp at h; done)
    rename_i b hb
    split at h <;> try (simp at h; done)
    rename_i k m hk
    obtain ⟨_, h'⟩ := bif_t0 h
    clear h
    split at h' <;> try (simp at h'; done)
    rename_i l hl
    simp only [Option.some.injEq, Prod.mk.injEq] at h'
    obtain ⟨hp, rfl⟩ := h'
    have hlt : p < l.length := by simpa [Nat.blt_eq] using hp
    obtain ⟨xs, hh, hr, _⟩ := S.M.bk i b hb
    have hxs := intsS_rls hl hr
    simp only [SV.rl] at hx
    refine wp_of_run (x := .int k (l.getD p 0)) ?_ (hK _ (by simp [SV.rl]))
    have hc : w.cell? ⟨ρ.blk i, p, none⟩ = some (.int k (l.getD p 0)) := by
      have hs : xs[p]? = some (.int k (l.getD p 0)) := by rw [hxs]; simp [hlt]
      simp [World.cell?, hh, hs]
    simp [execOp, Instr.loadAt, hx, Instr.sureAddr, loadVar, run_isAgg ha, hc]

  case convert sr d x =>
    have hx := ev_rl S.tm x
    unfold convB at h
    split at h <;> try (simp at h; done)
    rename_i i p n he
    rw [he] at hx
    obtain ⟨hn, h⟩ := bif_t0 h
    have hn := Nat.eq_of_beq_eq_true hn
    subst hn
    split at h <;> try (simp at h; done)
    rename_i el hs
    split at h <;> try (simp at h; done)
    rename_i hel
    split at h <;> try (simp at h; done)
    rename_i hd
    split at h <;> try (simp at h; done)
    rename_i b hb
    split at h <;> try (simp at h; done)
    rename_i m hm
    simp only [show Nat.beq 1 1 = true from rfl, cond_true, Option.some.injEq, Prod.mk.injEq, true_and] at h
    subst h
    simp only [SV.rl] at hx
    obtain ⟨ad, c, hx, hc, ha⟩ := hx
    have ha : ad = ⟨ρ.blk i, p, none⟩ := ha.resolve_left (by decide)
    subst ha
    obtain ⟨xs, hh, hr, _⟩ := S.M.bk i b hb
    obtain ⟨y, hy, hyr⟩ := rls_nth? hr hm
    simp only [SV.rl] at hyr
    subst hyr
    refine wp_of_run (x := .string (byte1 m)) ?_ (hK _ (by simp [SV.rl]))
    have hl := run_loadCells_list (P := P) w ⟨ρ.blk i, p, none⟩ [.int .u8 m] (by
      intro j v hj
      cases j with
      | zero =>
        simp only [List.getElem?_cons_zero, Option.some.injEq] at hj
        subst hj
        rw [add_eq]
        simp [World.cell?, hh, hy]
      | succ j => simp at hj)
    have hb2 := run_bytesToString (P := P) w ⟨ρ.blk i, p, none⟩ 1 c [m] (by simpa using hl)
    have h3 := run_convert_bytes_string (P := P) w sr d el (some ⟨ρ.blk i, p, none⟩) 1 c hs hel hd
    simp only [execOp, hx, Sem.run_bind, h3, hb2, Result.andThen_ok, Sem.run_pure, List.foldl_cons, List.foldl_nil, byte1]
  case binOp op t x y yt =>
    have hx := ev_rl S.tm x
    have hy := ev_rl S.tm y
    split at h <;> try (simp at h; done)
    rename_i g p c he
    split at h <;> try (simp at h; done)
    rename_i hn
    rw [he] at hx
    rw [hn] at hy
    simp only [SV.rl] at hx hy
    obtain ⟨ps, cs, hx, _, _⟩ := hx
    split at h <;> try (simp at h; done)
    rename_i hu
    have heq : eqE P 12 t (.func (.func g) ps.toArray cs.toArray) .nilFunc = some false := by simp only [eqE, hu]
    split at h <;> try (simp at h; done)
    · simp only [Option.some.injEq, Prod.mk.injEq, true_and] at h
      subst h
      have hb : binE P .eql t x y (.func (.func g) ps.toArray cs.toArray) .nilFunc = some (true, .bool false) := by simp [binE, guardOk, heq]
      have h1 := binE_run hb w
      refine wp_of_run (x := .bool false) ?_ (hK _ (by simp [SV.rl]))
      simp only [execOp, hx, hy, Sem.run_bind]
      simp only [Sem.run_bind] at h1
      rw [h1]; rfl
    · simp only [Option.some.injEq, Prod.mk.injEq, true_and] at h
      subst h
      have hb : binE P .neq t x y (.func (.func g) ps.toArray cs.toArray) .nilFunc = some (true, .bool true) := by simp [binE, guardOk, heq]
      have h1 := binE_run hb w
      refine wp_of_run (x := .bool true) ?_ (hK _ (by simp [SV.rl]))
      simp only [execOp, hx, hy, Sem.run_bind]
      simp only [Sem.run_bind] at h1
      rw [h1]; rfl

def stepRunA (P : Program) (G : Glob) (T : Tab) (rec : Code → St → (Xt → St → Option R) → Option R) (o : Oper) (n : Nat) (st : St) (kk : St → Option R) : Option R :=
  match opA P st.blks (ev st.tmps) o with
  | some (ok, v) => bif ok then kk { st with tmps := putD st.tmps o.dst v } else none
  | none => stepRun P G T rec o n st kk
def stepA (P : Program) (G : Glob) (T : Tab) (rec : Code → St → (Xt → St → Option R) → Option R) (ops : Array Oper) (o : Oper) (n : Nat) (st : St) (kk : St → Option R) : Option R :=
  match gd ops st.tmps o with
  | .yes => stepRunA P G T rec o n st kk
  | _ => stepE P G T rec ops o n st kk
def exOpsA (P : Program) (G : Glob) (T : Tab) (rec : Code → St → (Xt → St → Option R) → Option R) (ops : Array Oper) : List Oper → Nat → St → (St → Option R) → Option R
  | [], _, st, k => k st
  | o :: os, n, st, k => stepA P G T rec ops o n st fun st' => exOpsA P G T rec ops os (bif isNew o then n + 1 else n) st' k
theorem exOpsA_wp {rec : Code → St → (Xt → St → Option R) → Option R} {S0 : List (Nat × LSum)} (hN : NoCount P) (hT : TabOK P G T) (hr : RecOK P G S0 rec) {ops : Array Oper} {k : St → Option R} {r : R} {sv : List (List Value)} {Q : Exit → Act → World → Prop} :
    ∀ (os : List Oper) (n : Nat) (st : St) (ρ : Rf) (a : Act) (w : World), SRel G base ρ st a sv w → exOpsA P G T rec ops os n st k = some r →
    (∀ st' ρ' a' w', k st' = some r → SRel G base ρ' st' a' sv w' → Kp base.kp w w' → Q .normal a' w') → wpList P ops Q os a w
  | [], n, st, ρ, a, w, S, h, hQ => hQ _ ρ _ _ h S (Kp.refl _ _)
  | o :: os, n, st, ρ, a, w, S, h, hQ => by
    simp only [exOpsA] at h
    have next : ∀ st' ρ' a' w', exOpsA P G T rec ops os (bif isNew o then n + 1 else n) st' k = some r → SRel G base ρ' st' a' sv w' → Kp base.kp w w' → wpList P ops Q os a' w' :=
      fun st' ρ' a' w' hk S' hb => exOpsA_wp hN hT hr os _ st' ρ' a' w' S' hk fun st'' ρ'' a'' w'' h1 h2 h3 => hQ st'' ρ'' a'' w'' h1 h2 (hb.trans h3)
    simp only [wpList]
    unfold stepA at h
    split at h
    · rename_i hg
      rw [if_pos (gd_yes (ρ := ρ) hg)]
      unfold stepRunA at h
      split at h
      · rename_i ok v hv
        obtain ⟨hok, h⟩ := bif_t0 h
        subst hok
        exact .inl (opA_wp S hv fun x hx => next _ ρ _ _ h (S.val o.dst hx (Below.refl _ _)) (Kp.refl _ _))
      · exact .inl (stepRun_wp hN hT hr S h next)
    · rename_i hng
      unfold stepE at h
      split at h
      · rename_i hg; exact (hng hg).elim
      · rename_i hg
        have := gd_no S.tm hg
        rw [this]
        simp only [Bool.false_eq_true, if_false]
        exact next _ ρ _ _ h (skipE_rel S o) (Kp.refl _ _)
      · rename_i t b want hg
        obtain ⟨hv, hw⟩ := gd_test S.tm hg
        rw [hw]
        cases b <;> cases want <;> simp only [cond_true, cond_false, lit_same st t _ hv] at h <;> simp
        · exact .inl (stepRun_wp hN hT hr S h next)
        · exact next _ ρ _ _ h (skipE_rel S o) (Kp.refl _ _)
        · exact next _ ρ _ _ h (skipE_rel S o) (Kp.refl _ _)
        · exact .inl (stepRun_wp hN hT hr S h next)
      · simp at h
end
end
end Go.Wk


set_option autoImplicit false
set_option linter.unusedVariables false
set_option linter.unusedSimpArgs false
set_option linter.unnecessarySimpa false
namespace Go.Wk
noncomputable section
open Go Go.RowKit

def ex {R : Type} (P : Program) (G : Glob) (T : Tab) (H : Heads) : Nat → Code → St → (Xt → St → Option R) → Option R
  | 0, _, _, _ => none
  | d + 1, c, st, k => match c with
    | .skip => k .nrm st
    | .label _ => k .nrm st
    | .region _ ops draw => match (bif H.glue then exG P G T ops draw st else none) with
      | some (ok, st') => bif ok then forceS st' (k .nrm) else none
      | none => bif draw then exD P G T ops st (k .nrm)
        else bif H.arr then exOpsA P G T (ex P G T H d) ops ops.toList st.blks.length { st with blks := st.blks ++ nones (news ops.toList) } (fun s => forceS s (k .nrm))
        else exOps P G T (ex P G T H d) ops ops.toList st.blks.length { st with blks := st.blks ++ nones (news ops.toList) } (fun s => forceS s (k .nrm))
    | .seq a b => ex P G T H d a st fun e st' => match e with
        | .nrm => ex P G T H d b st' k
        | e => k e st'
    | .cond c x y => match (bif H.merge && (okC H.glue x && okC H.glue y) then exQ P G T H.glue (.cond c x y) st else none) with
        | some (ok, st') => bif ok then k .nrm st' else none
        | none => match ev st.tmps c with
          | .val (.bool b) => bif b then ex P G T H d x (litC st c true) k else ex P G T H d y (litC st c false) k
          | _ => none
    | .block id body => ex P G T H d body st fun e st' => match e with
        | .ext i => bif Nat.beq i id then k .nrm st' else k e st'
        | e => k e st'
    | .loop body => match (match st.saved with | [] => lookS H.sums (hd body) | _ :: _ => none) with
        | some F => F.run (headT H body st) k
        | none => ex P G T H d body (headT H body st) fun e st' => match e with
          | .nrm => ex P G T H d (.loop body) (headT H body st') k
          | e => k e st'
    | .exit id => k (.ext id) st
    | .scope body => ex P G T H d body st k
    | .ret => k .ret st
    | _ => none


section
variable {P : Program} {G : Glob} {T : Tab} {R : Type}

theorem Good.mono {c : Code} {st : St} {H H' : Xt → St → Prop} (h : Good P G c st H) (hh : ∀ e st', H e st' → H' e st') : Good P G c st H' :=
  fun base ρ a sv w Q S hQ => h base ρ a sv w Q S fun e st' ρ' a' w' h1 => hQ e st' ρ' a' w' (hh _ _ h1)

theorem saved_nil {base : Bs} {ρ ρ' : Rf} {st st' : St} {a a' : Act} {sv : List (List Value)} {w w' : World} (S : SRel G base ρ st a sv w) (S' : SRel G base ρ' st' a' sv w') (h : st'.saved = []) : st.saved = [] := by
  have h1 := S'.svd
  rw [h] at h1
  have h2 := S.svd
  cases sv with
  | nil => cases hs : st.saved with
    | nil => rfl
    | cons x r => rw [hs] at h2; simp [rlss] at h2
  | cons x r => simp [rlss] at h1

theorem headT_saved (H : Heads) (body : Code) (st : St) : (headT H body st).saved = st.saved := by
  unfold headT
  split
  · rename_i hs
    split
    · exact hs.symm
    · rfl
  · rfl
theorem ex_sound' (hM : P.follows .mixedOrders = true) (hN : NoCount P) (hT : TabOK P G T) (H : Heads) : ∀ d, RecOK (R := R) P G H.sums (ex P G T H d) ∧
    ∀ (body : Code) (st : St) (k : Xt → St → Option R) (r : R), (st.saved = [] → lookS H.sums (hd body) = none) → (st.saved = [] → LoopsOK P G H.sums body) → ex P G T H d (.loop body) st k = some r →
      ∀ (base : Bs) (ρ : Rf) (a : Act) (sv : List (List Value)) (w : World) (Q : Exit → Act → World → Prop), SRel G base ρ st a sv w →
      (∀ e st' ρ' a' w', k e st' = some r → SRel G base ρ' st' a' sv w' → Kp base.kp w w' → Q e.to a' w') → Code.rounds P body Q d a w
  | 0 => ⟨by intro c st k r _ h; simp [ex] at h, by intro body st k r _ _ h; simp [ex] at h⟩
  | d + 1 => by
    obtain ⟨ih, ihl⟩ := ex_sound' hM hN hT H d
    have lp : ∀ (body : Code) (st : St) (k : Xt → St → Option R) (r : R), (st.saved = [] → lookS H.sums (hd body) = none) → (st.saved = [] → LoopsOK P G H.sums body) → ex P G T H (d + 1) (.loop body) st k = some r →
      ∀ (base : Bs) (ρ : Rf) (a : Act) (sv : List (List Value)) (w : World) (Q : Exit → Act → World → Prop), SRel G base ρ st a sv w →
      (∀ e st' ρ' a' w', k e st' = some r → SRel G base ρ' st' a' sv w' → Kp base.kp w w' → Q e.to a' w') → Code.rounds P body Q (d + 1) a w := by
      intro body st k r hno hl h base ρ a sv w Q S hQ
      have hnone : (match st.saved with | [] => lookS H.sums (hd body) | _ :: _ => none) = none := by
        cases hs : st.saved with
        | nil => exact hno hs
        | cons x y => rfl
      simp only [ex] at h
      rw [hnone] at h
      simp only at h
      rw [rounds_succ]
      have Sh : SRel G base ρ (headT H body st) a sv w := headT_rel S
      refine ih body _ _ r (fun h0 => hl (by rw [headT_saved] at h0; exact h0)) h base ρ a sv w _ Sh ?_
      intro e st' ρ' a' w' hk S' hb
      have hs : st'.saved = [] → st.saved = [] := fun h0 => saved_nil S S' h0
      cases e with
      | nrm =>
        refine ihl body (headT H body st') k r (fun h0 => hno (hs (by rw [headT_saved] at h0; exact h0))) (fun h0 => hl (hs (by rw [headT_saved] at h0; exact h0))) hk base ρ' a' sv w' Q (headT_rel S') fun e2 st2 ρ2 a2 w2 h2 S2 hb2 => hQ e2 st2 ρ2 a2 w2 h2 S2 (hb.trans hb2)
      | ext i => exact hQ _ _ _ _ _ hk S' hb
      | ret => exact hQ _ _ _ _ _ hk S' hb
    refine ⟨?_, lp⟩
    intro c st k r hL h base ρ a sv w Q S hQ
    by_cases hlp : ∃ body, c = .loop body
    · obtain ⟨body, rfl⟩ := hlp
      cases hF : (match st.saved with | [] => lookS H.sums (hd body) | _ :: _ => none) with
      | some F =>
        have hs : st.saved = [] := by
          cases hs : st.saved with
          | nil => rfl
          | cons x y => rw [hs] at hF; simp at hF
        rw [hs] at hF
        simp only at hF
        simp only [ex, hs, hF] at h
        exact (hL hs).1 F hF R _ k r h base ρ a sv w Q (headT_rel S) hQ
      | none =>
        refine wp_loop_rounds (d + 1) (lp body st k r (fun hs => ?_) (fun hs => (hL hs).2) h base ρ a sv w Q S hQ)
        rw [hs] at hF
        exact hF
    cases c <;> simp only [ex, forceS_eq] at h <;> try (simp at h; done)
    case skip => exact wp_skip (hQ _ _ _ _ _ h S (Kp.refl _ _))
    case label l => exact wp_label (hQ _ _ _ _ _ h S (Kp.refl _ _))
    case exit id => exact wp_exit (hQ (.ext id) _ _ _ _ h S (Kp.refl _ _))
    case ret => exact wp_ret (hQ .ret _ _ _ _ h S (Kp.refl _ _))
    case region id ops draw =>
      split at h
      · rename_i ok st' hg
        obtain ⟨hok, h⟩ := bif_t h
        subst hok
        have hg : exG P G T ops draw st = some (true, st') := by
          cases hgl : H.glue with
          | true => rw [hgl] at hg; exact hg
          | false => rw [hgl] at hg; simp at hg
        exact exG_good hM hN hT hg base ρ a sv w Q S fun e s ρ' a' w' ⟨he, hs⟩ S' hb => by subst he; subst hs; exact hQ _ _ _ _ _ h S' hb
      cases draw with
      | true =>
        simp only [cond_true] at h
        exact exD_wp hM hT h base ρ a sv w Q S fun e st' ρ' a' w' ⟨he, hk⟩ => by subst he; exact hQ _ _ _ _ _ hk
      | false =>
        simp only [cond_false] at h
        cases hA : H.arr with
        | true =>
          rw [hA] at h
          simp only [cond_true] at h
          refine wp_region_list (exOpsA_wp hN hT ih ops.toList _ _ ρ a w ?_ h fun st' ρ' a' w' hk S' hb => hQ .nrm _ _ _ _ hk S' hb)
          exact S.tidy fun i b hb => blk?_nones _ _ i b hb
        | false =>
          rw [hA] at h
          simp only [cond_false] at h
          refine wp_region_list (exOps_wp hN hT ih ops.toList _ _ ρ a w ?_ h fun st' ρ' a' w' hk S' hb => hQ .nrm _ _ _ _ hk S' hb)
          exact S.tidy fun i b hb => blk?_nones _ _ i b hb
    case seq x y =>
      refine wp_seq (ih x st _ r (fun h0 => (hL h0).1) h base ρ a sv w _ S ?_)
      intro e st' ρ' a' w' hk S' hb
      cases e with
      | nrm => exact ih y st' k r (fun h0 => (hL (saved_nil S S' h0)).2) hk base ρ' a' sv w' Q S' fun e2 st2 ρ2 a2 w2 h2 S2 hb2 => hQ e2 st2 ρ2 a2 w2 h2 S2 (hb.trans hb2)
      | ext i => exact hQ _ _ _ _ _ hk S' hb
      | ret => exact hQ _ _ _ _ _ hk S' hb
    case cond c x y =>
      split at h
      · rename_i ok st' he
        obtain ⟨_, he⟩ := bif_t he
        obtain ⟨hok, h⟩ := bif_t h
        exact (exQ_ok hM hN hT (.cond c x y) st st' ok he hok) base ρ a sv w Q S fun ρ' a' w' S' hb => hQ .nrm st' ρ' a' w' h S' hb
      split at h <;> try (simp at h; done)
      rename_i b hc
      have hr := ev_rl S.tm c
      rw [hc] at hr
      simp only [SV.rl] at hr
      have hl : litC st c b = st := by
        cases c with
        | tmp t => exact lit_same st t b hc
        | _ => rfl
      refine wp_cond hr ?_
      cases b with
      | true =>
        simp only [cond_true] at h
        rw [hl] at h
        exact ih x st k r (fun h0 => (hL h0).1) h base ρ a sv w Q S hQ
      | false =>
        simp only [cond_false] at h
        rw [hl] at h
        exact ih y st k r (fun h0 => (hL h0).2) h base ρ a sv w Q S hQ
    case block id body =>
      refine wp_block (ih body st _ r hL h base ρ a sv w _ S ?_)
      intro e st' ρ' a' w' hk S' hb
      cases e with
      | nrm => exact hQ _ _ _ _ _ hk S' hb
      | ret => exact hQ _ _ _ _ _ hk S' hb
      | ext i =>
        cases hi : Nat.beq i id with
        | true =>
          simp only [hi, cond_true] at hk
          have := Nat.eq_of_beq_eq_true hi
          subst this
          simp only [Xt.to, Exit.inBlock, if_true]
          exact hQ .nrm _ _ _ _ hk S' hb
        | false =>
          simp only [hi, cond_false] at hk
          have : i ≠ id := fun e => by subst e; simp at hi
          simp only [Xt.to, Exit.inBlock, this, if_false]
          exact hQ (.ext i) _ _ _ _ hk S' hb
    case loop body => exact absurd ⟨body, rfl⟩ hlp
    case scope body =>
      refine wp_scope_straight (ih body st k r hL h base ρ a sv w _ S ?_)
      intro e st' ρ' a' w' hk S' hb
      cases e <;> exact hQ _ _ _ _ _ hk S' hb
theorem ex_sound (hM : P.follows .mixedOrders = true) (hN : NoCount P) (hT : TabOK P G T) (H : Heads) (d : Nat) : RecOK (R := R) P G H.sums (ex P G T H d) := (ex_sound' hM hN hT H d).1

theorem LoopsOK_nil : ∀ c : Code, LoopsOK P G [] c
  | .seq a b => ⟨LoopsOK_nil a, LoopsOK_nil b⟩
  | .cond _ a b => ⟨LoopsOK_nil a, LoopsOK_nil b⟩
  | .block _ b => LoopsOK_nil b
  | .scope b => LoopsOK_nil b
  | .loop b => ⟨fun F h => by simp [lookS] at h, LoopsOK_nil b⟩
  | .skip => trivial
  | .region _ _ _ => trivial
  | .rangeFunc _ _ _ _ => trivial
  | .exit _ => trivial
  | .label _ => trivial
  | .goto _ => trivial
  | .ret => trivial
  | .refuse _ => trivial

/-- a function at values -/
def retK (P : Program) (G : Glob) (fn : Func) : Xt → St → Option Value := fun e st => match e with
  | .ext _ => none
  | _ => match resE P G fn st with
    | some (.val v) => some v
    | _ => none
def runF (P : Program) (G : Glob) (T : Tab) (H : Heads) (d : Nat) (fn : Func) (vs : List Value) : Option Value := match fn.body with
  | none => none
  | some body => ex P G T H d body { tmps := vs.map .val ++ undefs (fn.ntmps - vs.length), blks := [], saved := [] } (retK P G fn)

/-- nothing is known at a walk's start -/
def Rf.none' : Rf := ⟨fun _ => 0, fun _ _ => none, fun _ => none⟩
theorem MRel_start {w : World} (hG : GOK G w) (hg : ∀ g cs, (g, cs) ∈ G → g < w.heap.size) {f : Fz} (hf : ∀ b o v, f b o = some v → w.cell? ⟨b, o, none⟩ = some v) :
    MRel G ⟨fun k => k < w.heap.size, f⟩ ⟨fun _ => 0, f, fun _ => none⟩ [] w where
  gl := hG
  glt := hg
  bk i b hb := by simp [blk?] at hb
  inj i j b c hb := by simp [blk?] at hb
  sz k hk := hk
  fz := hf
  fn i b hb := by simp [blk?] at hb
  fb b o v h _ := h
  tk k s v h := by simp at h
  ti k k' s s' v v' b h := by simp at h
theorem runF_calls' (hM : P.follows .mixedOrders = true) (hN : NoCount P) (hT : TabOK P G T) {H : Heads} {d : Nat} {f : FuncId} {fn : Func} (hL : ∀ c, fn.body = some c → LoopsOK P G H.sums c) (hf : P.funcs[f]? = some fn) {vs : List Value} {v : Value} {w : World}
    (hG : GOK G w) (hg : ∀ g cs, (g, cs) ∈ G → g < w.heap.size) (h : runF P G T H d fn vs = some v) : Calls P f vs.toArray w fun e w' => e = .returned v ∧ Below w.heap.size w w' := by
  unfold runF at h
  split at h <;> try (simp at h; done)
  rename_i body hb
  refine calls_of_wp hf hb (ex_sound hM hN hT H d body _ _ v (fun _ => hL _ hb) h ⟨fun k => k < w.heap.size, fun _ _ => none⟩ ⟨fun _ => 0, fun _ _ => none, fun _ => none⟩ _ [] w _ ⟨?_, rfl, by simp [rlss], MRel_start hG hg (by intro b o v h; simp at h)⟩ ?_)
  · simp only [Array.toList_append, Array.toList_replicate, List.size_toArray]
    exact rls_append (rls_vals vs) (undefs_rls _ _)
  · intro e st' ρ' a' w' hk S' hB
    have go : ∀ (h : (match resE P G fn st' with | some (.val v) => some v | _ => none : Option Value) = some v), a'.defers = [] ∧ ∃ x, (results fn a'.tmps).run P w' = .ok x w' ∧ (Ending.returned x = .returned v ∧ Below w.heap.size w w') := by
      intro h
      refine ⟨S'.df, ?_⟩
      split at h <;> try (simp at h; done)
      rename_i v' hv
      simp only [Option.some.injEq] at h
      subst h
      obtain ⟨x, hx, hxr⟩ := resE_run S' hv
      simp only [SV.rl] at hxr
      exact ⟨x, hx, by rw [hxr], kp_below hB⟩
    cases e with
    | nrm => exact go hk
    | ret => exact go hk
    | ext i => simp [retK] at hk
theorem runF_calls (hM : P.follows .mixedOrders = true) (hN : NoCount P) (hT : TabOK P G T) {m : Bool} {d : Nat} {f : FuncId} {fn : Func} (hf : P.funcs[f]? = some fn) {vs : List Value} {v : Value} {w : World}
    (hG : GOK G w) (hg : ∀ g cs, (g, cs) ∈ G → g < w.heap.size) (h : runF P G T { merge := m } d fn vs = some v) : Calls P f vs.toArray w fun e w' => e = .returned v ∧ Below w.heap.size w w' :=
  runF_calls' hM hN hT (fun c _ => LoopsOK_nil c) hf hG hg h

/-! functions of data -/
mutual
/-- a value that names no memory of the walk's own; a list that might grow is one that lies -/
def clo : SV → Option SV
  | .val v => some (.val v)
  | .dl c xs => some (.dl c xs)
  | .al _ c xs => some (.dl c xs)
  | .agg l => match cloL l with
    | some l' => some (.agg l')
    | none => none
  | .tup l => match cloL l with
    | some l' => some (.tup l')
    | none => none
  | .ifc t v => match clo v with
    | some v' => some (.ifc t v')
    | none => none
  | _ => none
def cloL : List SV → Option (List SV)
  | [] => some []
  | s :: r => match clo s with
    | some s' => match cloL r with
      | some r' => some (s' :: r')
      | none => none
    | none => none
end
mutual
theorem clo_rl {ρ ρ' : Rf} (hl : ρ.fz.le ρ'.fz) : ∀ {s s' : SV} {x : Value}, clo s = some s' → SV.rl ρ s x → SV.rl ρ' s' x
  | .val v, _, x, h, hr => by simp only [clo, Option.some.injEq] at h; subst h; simpa [SV.rl] using hr
  | .dl c xs, _, x, h, hr => by simp only [clo, Option.some.injEq] at h; subst h; simp only [SV.rl] at hr ⊢; exact rc_le hl hr
  | .al k c xs, _, x, h, hr => by simp only [clo, Option.some.injEq] at h; subst h; simp only [SV.rl] at hr ⊢; exact rc_le hl hr.2
  | .agg l, _, x, h, hr => by
    simp only [clo] at h
    split at h <;> simp only [Option.some.injEq, reduceCtorEq] at h
    rename_i l' hl'
    subst h
    simp only [SV.rl] at hr ⊢
    obtain ⟨xs, e, hx⟩ := hr
    exact ⟨xs, e, cloL_rls hl hl' hx⟩
  | .tup l, _, x, h, hr => by
    simp only [clo] at h
    split at h <;> simp only [Option.some.injEq, reduceCtorEq] at h
    rename_i l' hl'
    subst h
    simp only [SV.rl] at hr ⊢
    obtain ⟨xs, e, hx⟩ := hr
    exact ⟨xs, e, cloL_rls hl hl' hx⟩
  | .ifc t v, _, x, h, hr => by
    simp only [clo] at h
    split at h <;> simp only [Option.some.injEq, reduceCtorEq] at h
    rename_i v' hv
    subst h
    simp only [SV.rl] at hr ⊢
    obtain ⟨y, e, hx⟩ := hr
    exact ⟨y, e, clo_rl hl hv hx⟩
  | .glob _ _, _, _, h, _ => by simp [clo] at h
  | .ptr _ _, _, _, h, _ => by simp [clo] at h
  | .slc _ _ _, _, _, h, _ => by simp [clo] at h
  | .fn _ _ _, _, _, h, _ => by simp [clo] at h
  | .unk, _, _, h, _ => by simp [clo] at h
  | .ep _ _ _, _, _, h, _ => by simp [clo] at h
theorem cloL_rls {ρ ρ' : Rf} (hl : ρ.fz.le ρ'.fz) : ∀ {l l' : List SV} {xs : List Value}, cloL l = some l' → SV.rls ρ l xs → SV.rls ρ' l' xs
  | [], _, [], h, _ => by simp only [cloL, Option.some.injEq] at h; subst h; simp [SV.rls]
  | s :: r, _, x :: xs, h, hr => by
    simp only [cloL] at h
    split at h <;> try (simp at h; done)
    rename_i s' hs
    split at h <;> simp only [Option.some.injEq, reduceCtorEq] at h
    rename_i r' hr'
    subst h
    simp only [SV.rls] at hr ⊢
    exact ⟨clo_rl hl hs hr.1, cloL_rls hl hr' hr.2⟩
  | [], _, _ :: _, _, h => by simp [SV.rls] at h
  | _ :: _, _, [], _, h => by simp [SV.rls] at h
end
def retX (P : Program) (G : Glob) (fn : Func) : Xt → St → Option SV := fun e st => match e with
  | .ext _ => none
  | _ => match resE P G fn st with
    | some v => clo v
    | none => none
def runX (P : Program) (G : Glob) (T : Tab) (H : Heads) (d : Nat) (fn : Func) (as : List SV) : Option SV := match fn.body with
  | none => none
  | some body => ex P G T H d body { tmps := as ++ undefs (fn.ntmps - as.length), blks := [], saved := [] } (retX P G fn)
theorem runX_calls (hM : P.follows .mixedOrders = true) (hN : NoCount P) (hT : TabOK P G T) {H : Heads} {d : Nat} {f : FuncId} {fn : Func} (hL : ∀ c, fn.body = some c → LoopsOK P G H.sums c) (hf : P.funcs[f]? = some fn) {as : List SV} {r : SV} {ρ : Rf} {xs : List Value} {w : World}
    (hG : GOK G w) (hg : ∀ g cs, (g, cs) ∈ G → g < w.heap.size) (hF : FOK ρ w) (ha : SV.rls ⟨fun _ => 0, ρ.fz, fun _ => none⟩ as xs) (h : runX P G T H d fn as = some r) :
    Calls P f xs.toArray w fun e w' => ∃ x, e = .returned x ∧ Below w.heap.size w w' ∧ SV.rl (ρ.grow w w') r x := by
  unfold runX at h
  split at h <;> try (simp at h; done)
  rename_i body hb
  refine calls_of_wp hf hb (ex_sound hM hN hT H d body _ _ r (fun _ => hL _ hb) h ⟨fun k => k < w.heap.size, ρ.fz⟩ ⟨fun _ => 0, ρ.fz, fun _ => none⟩ _ [] w _ ⟨?_, rfl, by simp [rlss], MRel_start hG hg hF⟩ ?_)
  · simp only [Array.toList_append, Array.toList_replicate, List.size_toArray]
    rw [rls_len ha]
    exact rls_append ha (undefs_rls _ _)
  · intro e st' ρ' a' w' hk S' hB
    have hle : ρ'.fz.le (ρ.grow w w').fz := by
      intro b o v hv
      simp only [Rf.grow]
      by_cases hlt : b < w.heap.size
      · rw [if_pos hlt]; exact S'.M.fb b o v hv hlt
      · rw [if_neg hlt]; exact S'.M.fz b o v hv
    have go : ∀ (h : (match resE P G fn st' with | some v => clo v | none => none : Option SV) = some r), a'.defers = [] ∧ ∃ x, (results fn a'.tmps).run P w' = .ok x w' ∧ ∃ y, Ending.returned x = .returned y ∧ Below w.heap.size w w' ∧ SV.rl (ρ.grow w w') r y := by
      intro h
      refine ⟨S'.df, ?_⟩
      split at h <;> try (simp at h; done)
      rename_i v' hv
      obtain ⟨x, hx, hxr⟩ := resE_run S' hv
      exact ⟨x, hx, x, rfl, kp_below hB, clo_rl hle h hxr⟩
    cases e with
    | nrm => exact go hk
    | ret => exact go hk
    | ext i => simp [retX] at hk
end
end
end Go.Wk


set_option autoImplicit false
set_option linter.unusedVariables false
set_option linter.unusedSimpArgs false
set_option linter.unnecessarySimpa false
namespace Go.Wk
noncomputable section
open Go Go.RowKit

abbrev FV := List SV → Option (Bool × SV)
abbrev TL := List (Nat × FV)
def lookT : TL → Nat → Option FV
  | [], _ => none
  | (g, F) :: r, n => bif Nat.beq g n then some F else lookT r n
def tab (l : TL) : Tab := lookT l

/-- what a program is asked once -/
structure Cx (P : Program) (G : Glob) : Prop where
  mixed : P.follows .mixedOrders = true
  names : NoCount P
  full : ∀ g cs, (g, cs) ∈ G → cs ≠ []

theorem noCount_of {P : Program} (h : P.funcs.toList.all (fun fn => !(fn.name == "runtime.NumGoroutine")) = true) : NoCount P := by
  intro g fn hf
  rw [List.all_eq_true] at h
  have := h fn (by simpa using Array.mem_of_getElem? hf)
  simpa using this

section
variable {P : Program} {G : Glob}
theorem gok_lt (C : Cx P G) {w : World} (h : GOK G w) : ∀ g cs, (g, cs) ∈ G → g < w.heap.size := by
  intro g cs hg
  exact (h g cs hg).lt
theorem TabOK_nil : TabOK P G (tab []) := by intro g F h; simp [tab, lookT] at h
theorem TabOK_cons {l : TL} {f : Nat} {F : FV} {fn : Func} (h : TabOK P G (tab l)) (hf : P.funcs[f]? = some fn) (C : Cx P G) (hb : fn.body.isNone = false)
    (hF : ∀ (as : List SV) (r : SV) (ρ : Rf) (xs : List Value) (w : World), GOK G w → FOK ρ w → SV.rls ρ as xs → F as = some (true, r) → Calls P f xs.toArray w fun e w' => ∃ x, e = .returned x ∧ Below w.heap.size w w' ∧ SV.rl (ρ.grow w w') r x) : TabOK P G (tab ((f, F) :: l)) := by
  intro g F' hg
  simp only [tab, lookT] at hg
  cases hb' : Nat.beq f g with
  | true =>
    simp only [hb', cond_true, Option.some.injEq] at hg
    subst hg
    have := Nat.eq_of_beq_eq_true hb'
    subst this
    exact .inl ⟨⟨fn, hf, C.names _ _ hf, hb⟩, hF⟩
  | false =>
    simp only [hb', cond_false] at hg
    exact h g F' hg
theorem FOK_none (w : World) : FOK ⟨fun _ => 0, fun _ _ => none, fun _ => none⟩ w := by intro b o v h; simp at h
theorem TabOK_calls {T : Tab} (C : Cx P G) (h : TabOK P G T) {g : Nat} {F : FV} (hg : T g = some F) {fn : Func} (hf : P.funcs[g]? = some fn) (hb : fn.body.isNone = false) {vs : List Value} {v : Value} {w : World} (hG : GOK G w)
    (hF : F (vs.map .val) = some (true, .val v)) : Calls P g vs.toArray w fun e w' => e = .returned v ∧ Below w.heap.size w w' := by
  rcases h g F hg with ⟨_, hc⟩ | hc
  · refine (hc _ _ ⟨fun _ => 0, fun _ _ => none, fun _ => none⟩ vs w hG (FOK_none w) (rls_vals vs) hF).mono ?_
    rintro e w' ⟨x, rfl, hb, hx⟩
    simp only [SV.rl] at hx
    exact ⟨by rw [hx], hb⟩
  · obtain ⟨x, h1, _⟩ := hc _ _ ⟨fun _ => 0, fun _ _ => none, fun _ => none⟩ vs w (rls_vals vs) hF
    rw [enter_of ⟨fn, hf, C.names _ _ hf, hb⟩ w] at h1
    simp at h1
theorem TabOK_sub {P : Program} {G G' : Glob} {T : Tab} (hs : ∀ x, x ∈ G → x ∈ G') (h : TabOK P G T) : TabOK P G' T := by
  intro g F hg
  rcases h g F hg with ⟨h1, h2⟩ | h2
  · exact .inl ⟨h1, fun as r ρ xs w hG hv => h2 as r ρ xs w (fun g cs hm => hG g cs (hs _ hm)) hv⟩
  · exact .inr h2
/-- an entry of values alone -/
theorem TabOK_cons' {l : TL} {f : Nat} {F : FV} (h : TabOK P G (tab l)) (hF : ∀ (as : List SV) (r : SV) (ρ : Rf) (xs : List Value) (w : World), SV.rls ρ as xs → F as = some (true, r) → ∃ x, (callFunc f xs.toArray).run P w = .ok (.value x) w ∧ SV.rl ρ r x) : TabOK P G (tab ((f, F) :: l)) := by
  intro g F' hg
  simp only [tab, lookT] at hg
  cases hb' : Nat.beq f g with
  | true =>
    simp only [hb', cond_true, Option.some.injEq] at hg
    subst hg
    have := Nat.eq_of_beq_eq_true hb'
    subst this
    exact .inr hF
  | false =>
    simp only [hb', cond_false] at hg
    exact h g F' hg
/-- a function of values as one of abstract values -/
def liftV (F : List Value → Option (Bool × Value)) : FV := fun as => match vals as with
  | some vs => match F vs with
    | some (ok, v) => some (ok, .val v)
    | none => none
  | none => none
theorem liftV_inv {F : List Value → Option (Bool × Value)} {as : List SV} {r : SV} (h : liftV F as = some (true, r)) : ∃ vs v, vals as = some vs ∧ F vs = some (true, v) ∧ r = .val v := by
  unfold liftV at h
  split at h <;> try (simp at h; done)
  rename_i vs hv
  split at h <;> simp only [Option.some.injEq, Prod.mk.injEq, reduceCtorEq] at h
  rename_i ok v hF
  obtain ⟨rfl, rfl⟩ := h
  exact ⟨vs, v, hv, hF, rfl⟩
theorem TabOK_ext {l : TL} {f : Nat} {F : List Value → Option (Bool × Value)} (h : TabOK P G (tab l)) (hF : ∀ vs v w, F vs = some (true, v) → (callFunc f vs.toArray).run P w = .ok (.value v) w) : TabOK P G (tab ((f, liftV F) :: l)) :=
  TabOK_cons' h fun as r ρ xs w hr h => by
    obtain ⟨vs, v, hv, hf, rfl⟩ := liftV_inv h
    rw [vals_rls hv hr]
    exact ⟨v, hF vs v w hf, by simp [SV.rl]⟩
theorem TabOK_consV {l : TL} {f : Nat} {F : List Value → Option (Bool × Value)} {fn : Func} (h : TabOK P G (tab l)) (hf : P.funcs[f]? = some fn) (C : Cx P G) (hb : fn.body.isNone = false)
    (hF : ∀ vs v w, GOK G w → F vs = some (true, v) → Calls P f vs.toArray w fun e w' => e = .returned v ∧ Below w.heap.size w w') : TabOK P G (tab ((f, liftV F) :: l)) :=
  TabOK_cons h hf C hb fun as r ρ xs w hG _ hr hv => by
    obtain ⟨vs, v, hv', hf', rfl⟩ := liftV_inv hv
    rw [vals_rls hv' hr]
    refine (hF vs v w hG hf').mono ?_
    rintro e w' ⟨rfl, hb⟩
    exact ⟨v, rfl, hb, by simp [SV.rl]⟩
theorem TabOK_run {l : TL} {f : Nat} {F : List Value → Option (Bool × Value)} {fn : Func} (C : Cx P G) (h : TabOK P G (tab l)) (hf : P.funcs[f]? = some fn) (hb : fn.body.isNone = false)
    (hF : ∀ vs v, F vs = some (true, v) → ∃ H d, (∀ c, fn.body = some c → LoopsOK P G H.sums c) ∧ runF P G (tab l) H d fn vs = some v) : TabOK P G (tab ((f, liftV F) :: l)) :=
  TabOK_cons h hf C hb fun as r ρ xs w hG _ hr hv => by
    obtain ⟨vs, v, hv', hf', rfl⟩ := liftV_inv hv
    obtain ⟨H, d, hL, hrun⟩ := hF vs v hf'
    rw [vals_rls hv' hr]
    refine (runF_calls' C.mixed C.names h hL hf hG (gok_lt C hG) hrun).mono ?_
    rintro e w' ⟨rfl, hb⟩
    exact ⟨v, rfl, hb, by simp [SV.rl]⟩
end

/-! arguments, taken apart -/
structure PS (α : Type) where
  dec : List Value → Option (α × List Value)
  enc : α → List Value
  ok : ∀ {vs p r}, dec vs = some (p, r) → vs = enc p ++ r
def cI (k : IntKind) : PS Int where
  dec := fun vs => match vs with
    | .int k' n :: r => bif decide (k' = k) then some (n, r) else none
    | _ => none
  enc n := [.int k n]
  ok := by
    intro vs p r h
    split at h <;> try (simp at h; done)
    rename_i k' n r'
    by_cases e : k' = k
    · simp only [e, decide_true, cond_true, Option.some.injEq, Prod.mk.injEq] at h
      obtain ⟨rfl, rfl⟩ := h
      subst e; rfl
    · simp [e] at h
def cB : PS Bool where
  dec := fun vs => match vs with
    | .bool b :: r => some (b, r)
    | _ => none
  enc b := [.bool b]
  ok := by
    intro vs p r h
    split at h <;> simp only [Option.some.injEq, Prod.mk.injEq, reduceCtorEq] at h
    obtain ⟨rfl, rfl⟩ := h; rfl
def cS : PS ByteArray where
  dec := fun vs => match vs with
    | .string b :: r => some (b, r)
    | _ => none
  enc b := [.string b]
  ok := by
    intro vs p r h
    split at h <;> simp only [Option.some.injEq, Prod.mk.injEq, reduceCtorEq] at h
    obtain ⟨rfl, rfl⟩ := h; rfl
def cU : PS Unit where
  dec := fun vs => some ((), vs)
  enc _ := []
  ok := by
    intro vs p r h
    simp only [Option.some.injEq, Prod.mk.injEq] at h
    rw [h.2]; rfl
def cP {α β : Type} (a : PS α) (b : PS β) : PS (α × β) where
  dec := fun vs => match a.dec vs with
    | none => none
    | some (x, r) => match b.dec r with
      | none => none
      | some (y, r') => some ((x, y), r')
  enc p := a.enc p.1 ++ b.enc p.2
  ok := by
    intro vs p r h
    split at h <;> try (simp at h; done)
    rename_i x r1 h1
    split at h <;> simp only [Option.some.injEq, Prod.mk.injEq, reduceCtorEq] at h
    rename_i y r2 h2
    obtain ⟨rfl, rfl⟩ := h
    rw [a.ok h1, b.ok h2, List.append_assoc]
def cA {α : Type} (a : PS α) : PS α where
  dec := fun vs => match vs with
    | .agg cs :: r => match a.dec cs.toList with
      | some (x, []) => some (x, r)
      | _ => none
    | _ => none
  enc p := [.agg (a.enc p).toArray]
  ok := by
    intro vs p r h
    split at h <;> try (simp at h; done)
    rename_i cs r'
    split at h <;> simp only [Option.some.injEq, Prod.mk.injEq, reduceCtorEq] at h
    rename_i x h1
    obtain ⟨rfl, rfl⟩ := h
    have := a.ok h1
    simp only [List.append_nil] at this
    rw [← this]; rfl
/-- one function value, and no other -/
def cF (g : Nat) : PS Unit where
  dec := fun vs => match vs with
    | .func (.func g') p c :: r => bif Nat.beq g g' && (p.toList.isEmpty && c.toList.isEmpty) then some ((), r) else none
    | _ => none
  enc _ := [.func (.func g) #[] #[]]
  ok := by
    intro vs p r h
    split at h <;> try (simp at h; done)
    rename_i g' p' c' r'
    obtain ⟨hb, h'⟩ := bif_t h
    clear h
    simp only [Option.some.injEq, Prod.mk.injEq, true_and] at h'
    simp only [Bool.and_eq_true, List.isEmpty_iff, Array.toList_eq_nil_iff] at hb
    obtain ⟨h1, h2, h3⟩ := hb
    have := Nat.eq_of_beq_eq_true h1
    subst this; subst h2; subst h3; subst h'
    rfl

def mkV {α : Type} (s : PS α) (g : α → Bool) (f : α → Value) : List Value → Option (Bool × Value) := fun vs => match s.dec vs with
  | some (p, []) => some (g p, f p)
  | _ => none
def mkF {α : Type} (s : PS α) (g : α → Bool) (f : α → Value) : FV := liftV (mkV s g f)
theorem mkF_inv {α : Type} {s : PS α} {g : α → Bool} {f : α → Value} {vs : List Value} {v : Value} (h : mkV s g f vs = some (true, v)) : ∃ p, vs = s.enc p ∧ g p = true ∧ v = f p := by
  unfold mkV at h
  split at h <;> simp only [Option.some.injEq, Prod.mk.injEq, reduceCtorEq] at h
  rename_i p hp
  exact ⟨p, by rw [s.ok hp]; simp, h.1, h.2.symm⟩
theorem TabOK_mkL {P : Program} {G : Glob} {α : Type} {l : TL} {f : Nat} {fn : Func} {s : PS α} {g : α → Bool} {r : α → Value} (C : Cx P G) (h : TabOK P G (tab l)) (hf : P.funcs[f]? = some fn) (hb : fn.body.isNone = false)
    (H : Heads) (hL : ∀ c, fn.body = some c → LoopsOK P G H.sums c) (d : Nat) (hF : ∀ p, g p = true → runF P G (tab l) H d fn (s.enc p) = some (r p)) : TabOK P G (tab ((f, mkF s g r) :: l)) :=
  TabOK_run C h hf hb fun vs v hv => by
    obtain ⟨p, rfl, hg, rfl⟩ := mkF_inv hv
    exact ⟨H, d, hL, hF p hg⟩
theorem TabOK_mk {P : Program} {G : Glob} {α : Type} {l : TL} {f : Nat} {fn : Func} {s : PS α} {g : α → Bool} {r : α → Value} (C : Cx P G) (h : TabOK P G (tab l)) (hf : P.funcs[f]? = some fn) (hb : fn.body.isNone = false)
    (m : Bool) (d : Nat) (hF : ∀ p, g p = true → runF P G (tab l) { merge := m } d fn (s.enc p) = some (r p)) : TabOK P G (tab ((f, mkF s g r) :: l)) :=
  TabOK_mkL C h hf hb { merge := m } (fun c _ => LoopsOK_nil c) d hF

/-! arguments that are data -/
structure PD (α : Type) where
  dec : List SV → Option (α × List SV)
  enc : α → List SV
  ok : ∀ {as p r ρ xs}, dec as = some (p, r) → SV.rls ρ as xs → ∃ us ws, xs = us ++ ws ∧ SV.rls ρ (enc p) us ∧ SV.rls ρ r ws
  mv : ∀ {ρ ρ' : Rf} {p xs}, ρ.fz.le ρ'.fz → SV.rls ρ (enc p) xs → SV.rls ρ' (enc p) xs
theorem rls_app_inv {ρ : Rf} : ∀ {l m : List SV} {xs : List Value}, SV.rls ρ (l ++ m) xs → ∃ us ws, xs = us ++ ws ∧ SV.rls ρ l us ∧ SV.rls ρ m ws
  | [], m, xs, h => ⟨[], xs, rfl, by simp [SV.rls], h⟩
  | s :: l, m, x :: xs, h => by
    simp only [List.cons_append, SV.rls] at h
    obtain ⟨us, ws, rfl, h1, h2⟩ := rls_app_inv h.2
    exact ⟨x :: us, ws, rfl, by simp only [SV.rls]; exact ⟨h.1, h1⟩, h2⟩
  | _ :: _, _, [], h => by simp [SV.rls] at h
/-- one datum -/
def dD (c : Cd) : PD c.T where
  dec := decC c
  enc := cellsD c
  ok := by
    intro as p r ρ xs h hr
    obtain ⟨us, ws, e, h1, h2⟩ := decC_rc h hr
    exact ⟨us, ws, e, cellsD_rls h1, h2⟩
  mv := by
    intro ρ ρ' p xs hl h
    have key : ∀ (c : Cd) (p : c.T) (xs : List Value), SV.rls ρ (cellsD c p) xs → SV.rls ρ' (cellsD c p) xs := by
      intro c
      induction c with
      | int k => intro p xs h; match xs, h with
        | [x], h => simpa [cellsD, SV.rls, SV.rl] using h
        | [], h => simp [cellsD, SV.rls] at h
        | _ :: _ :: _, h => simp [cellsD, SV.rls] at h
      | bool => intro p xs h; match xs, h with
        | [x], h => simpa [cellsD, SV.rls, SV.rl] using h
        | [], h => simp [cellsD, SV.rls] at h
        | _ :: _ :: _, h => simp [cellsD, SV.rls] at h
      | str => intro p xs h; match xs, h with
        | [x], h => simpa [cellsD, SV.rls, SV.rl] using h
        | [], h => simp [cellsD, SV.rls] at h
        | _ :: _ :: _, h => simp [cellsD, SV.rls] at h
      | list c ih => intro p xs h; match xs, h with
        | [x], h =>
          simp only [cellsD, SV.rls, SV.rl, and_true] at h ⊢
          exact rc_le hl h
        | [], h => simp [cellsD, SV.rls] at h
        | _ :: _ :: _, h => simp [cellsD, SV.rls] at h
      | pair a b iha ihb =>
        intro p xs h
        simp only [cellsD] at h ⊢
        obtain ⟨us, ws, rfl, h1, h2⟩ := rls_app_inv h
        exact rls_append (iha _ _ h1) (ihb _ _ h2)
    exact key c p xs h
def dU : PD Unit where
  dec := fun vs => some ((), vs)
  enc _ := []
  ok := by
    intro as p r ρ xs h hr
    simp only [Option.some.injEq, Prod.mk.injEq] at h
    obtain ⟨_, rfl⟩ := h
    exact ⟨[], xs, rfl, by simp [SV.rls], hr⟩
  mv := by
    intro ρ ρ' p xs _ h
    match xs, h with
    | [], _ => simp [SV.rls]
    | _ :: _, h => simp [SV.rls] at h
def dP {α β : Type} (a : PD α) (b : PD β) : PD (α × β) where
  dec := fun vs => match a.dec vs with
    | none => none
    | some (x, r) => match b.dec r with
      | none => none
      | some (y, r') => some ((x, y), r')
  enc p := a.enc p.1 ++ b.enc p.2
  ok := by
    intro as p r ρ xs h hr
    split at h <;> try (simp at h; done)
    rename_i x r1 h1
    split at h <;> simp only [Option.some.injEq, Prod.mk.injEq, reduceCtorEq] at h
    rename_i y r2 h2
    obtain ⟨rfl, rfl⟩ := h
    obtain ⟨us, ws, rfl, a1, a2⟩ := a.ok h1 hr
    obtain ⟨us', ws', rfl, b1, b2⟩ := b.ok h2 a2
    exact ⟨us ++ us', ws', by simp, rls_append a1 b1, b2⟩
  mv := by
    intro ρ ρ' p xs hl h
    obtain ⟨us, ws, rfl, h1, h2⟩ := rls_app_inv h
    exact rls_append (a.mv hl h1) (b.mv hl h2)
/-- a struct of data, as a value -/
def dA (c : Cd) : PD c.T where
  dec := fun vs => match vs with
    | .agg l :: r => match decC c l with
      | some (x, []) => some (x, r)
      | _ => none
    | .val (.agg cs) :: r => match decC c (cs.toList.map .val) with
      | some (x, []) => some (x, r)
      | _ => none
    | _ => none
  enc p := [.agg (cellsD c p)]
  ok := by
    intro as p r ρ xs h hr
    split at h <;> try (simp at h; done)
    · rename_i l r'
      split at h <;> simp only [Option.some.injEq, Prod.mk.injEq, reduceCtorEq] at h
      rename_i x h1
      obtain ⟨rfl, rfl⟩ := h
      match xs, hr with
      | v :: vs, hr =>
        simp only [SV.rls, SV.rl] at hr
        obtain ⟨⟨ys, e, hy⟩, hr⟩ := hr
        obtain ⟨us, ws, e2, h3, h4⟩ := decC_rc h1 hy
        have : ws = [] := by cases ws with
          | nil => rfl
          | cons a b => simp [SV.rls] at h4
        subst this
        simp only [List.append_nil] at e2
        subst e2
        exact ⟨[v], vs, rfl, by simp only [SV.rls, SV.rl, and_true]; exact ⟨_, e, cellsD_rls h3⟩, hr⟩
      | [], hr => simp [SV.rls] at hr
    · rename_i cs r'
      split at h <;> simp only [Option.some.injEq, Prod.mk.injEq, reduceCtorEq] at h
      rename_i x h1
      obtain ⟨rfl, rfl⟩ := h
      match xs, hr with
      | v :: vs, hr =>
        simp only [SV.rls, SV.rl] at hr
        obtain ⟨e, hr⟩ := hr
        obtain ⟨us, ws, e2, h3, h4⟩ := decC_rc h1 (rls_vals (ρ := ρ) cs.toList)
        have : ws = [] := by cases ws with
          | nil => rfl
          | cons a b => simp [SV.rls] at h4
        subst this
        simp only [List.append_nil] at e2
        exact ⟨[v], vs, rfl, by simp only [SV.rls, SV.rl, and_true]; exact ⟨us, by rw [e, ← e2], cellsD_rls h3⟩, hr⟩
      | [], hr => simp [SV.rls] at hr
  mv := by
    intro ρ ρ' p xs hl h
    match xs, h with
    | [x], h =>
      simp only [SV.rls, SV.rl, and_true] at h ⊢
      obtain ⟨ys, e, hy⟩ := h
      exact ⟨ys, e, (dD c).mv hl hy⟩
    | [], h => simp [SV.rls] at h
    | _ :: _ :: _, h => simp [SV.rls] at h
/-- one function value, and no other -/
def dF (g : Nat) : PD Unit where
  dec := fun vs => match vs with
    | .val (.func (.func g') p c) :: r => bif Nat.beq g g' && (p.toList.isEmpty && c.toList.isEmpty) then some ((), r) else none
    | _ => none
  enc _ := [.val (.func (.func g) #[] #[])]
  ok := by
    intro as p r ρ xs h hr
    split at h <;> try (simp at h; done)
    rename_i g' p' c' r'
    obtain ⟨hb, h'⟩ := bif_t h
    clear h
    simp only [Option.some.injEq, Prod.mk.injEq, true_and] at h'
    simp only [Bool.and_eq_true, List.isEmpty_iff, Array.toList_eq_nil_iff] at hb
    obtain ⟨h1, h2, h3⟩ := hb
    have := Nat.eq_of_beq_eq_true h1
    subst this; subst h2; subst h3; subst h'
    match xs, hr with
    | v :: vs, hr => simp only [SV.rls] at hr; exact ⟨[v], vs, rfl, by simp only [SV.rls, and_true]; exact hr.1, hr.2⟩
    | [], hr => simp [SV.rls] at hr
  mv := by
    intro ρ ρ' p xs hl h
    match xs, h with
    | [x], h => simpa [SV.rls, SV.rl] using h
    | [], h => simp [SV.rls] at h
    | _ :: _ :: _, h => simp [SV.rls] at h
def mkX {α : Type} (s : PD α) (g : α → Bool) (f : α → SV) : FV := fun as => match s.dec as with
  | some (p, []) => some (g p, f p)
  | _ => none
theorem mkX_inv {α : Type} {s : PD α} {g : α → Bool} {f : α → SV} {as : List SV} {r : SV} (h : mkX s g f as = some (true, r)) {ρ : Rf} {xs : List Value} (hr : SV.rls ρ as xs) : ∃ p, SV.rls ρ (s.enc p) xs ∧ g p = true ∧ r = f p := by
  unfold mkX at h
  split at h <;> simp only [Option.some.injEq, Prod.mk.injEq, reduceCtorEq] at h
  rename_i p hp
  obtain ⟨us, ws, rfl, h1, h2⟩ := s.ok hp hr
  have : ws = [] := by cases ws with
    | nil => rfl
    | cons a b => simp [SV.rls] at h2
  subst this
  exact ⟨p, by simpa using h1, h.1, h.2.symm⟩
/-- a function whose contract is known -/
theorem TabOK_mkC {P : Program} {G : Glob} {α : Type} {l : TL} {f : Nat} {fn : Func} {s : PD α} {g : α → Bool} {r : α → SV} (C : Cx P G) (h : TabOK P G (tab l)) (hf : P.funcs[f]? = some fn) (hb : fn.body.isNone = false)
    (hF : ∀ p (ρ : Rf) (xs : List Value) (w : World), g p = true → GOK G w → FOK ρ w → SV.rls ρ (s.enc p) xs → Calls P f xs.toArray w fun e w' => ∃ x, e = .returned x ∧ Below w.heap.size w w' ∧ SV.rl (ρ.grow w w') (r p) x) : TabOK P G (tab ((f, mkX s g r) :: l)) :=
  TabOK_cons h hf C hb fun as q ρ xs w hG hFz hr hv => by
    obtain ⟨p, h1, h2, rfl⟩ := mkX_inv hv hr
    exact hF p ρ xs w h2 hG hFz h1
theorem TabOK_mkXH {P : Program} {G : Glob} {α : Type} {l : TL} {f : Nat} {fn : Func} {s : PD α} {g : α → Bool} {r : α → SV} (C : Cx P G) (h : TabOK P G (tab l)) (hf : P.funcs[f]? = some fn) (hb : fn.body.isNone = false)
    (H : α → Heads) (hL : ∀ p c, fn.body = some c → LoopsOK P G (H p).sums c) (d : Nat) (hF : ∀ p, g p = true → runX P G (tab l) (H p) d fn (s.enc p) = some (r p)) : TabOK P G (tab ((f, mkX s g r) :: l)) :=
  TabOK_mkC C h hf hb fun p ρ xs w hg hG hFz hr => runX_calls C.mixed C.names h (hL p) hf hG (gok_lt C hG) hFz (s.mv (ρ := ρ) (ρ' := ⟨fun _ => 0, ρ.fz, fun _ => none⟩) (p := p) (fun _ _ _ h => h) hr) (hF p hg)
theorem TabOK_mkX {P : Program} {G : Glob} {α : Type} {l : TL} {f : Nat} {fn : Func} {s : PD α} {g : α → Bool} {r : α → SV} (C : Cx P G) (h : TabOK P G (tab l)) (hf : P.funcs[f]? = some fn) (hb : fn.body.isNone = false)
    (H : Heads) (hL : ∀ c, LoopsOK P G H.sums c) (d : Nat) (hF : ∀ p, g p = true → runX P G (tab l) H d fn (s.enc p) = some (r p)) : TabOK P G (tab ((f, mkX s g r) :: l)) :=
  TabOK_mkXH C h hf hb (fun _ => H) (fun _ c _ => hL c) d hF

/-- a way's end, told by its result -/
theorem pc {ρ γ : Type} (k : ρ → γ) (b : Bool) (X Y : γ) (p q : ρ) (hX : X = k p) (hY : Y = k q) : (bif b then X else Y) = k (bif b then p else q) := by cases b <;> assumption

theorem pn {ρ γ : Type} (k : ρ → γ) (b o1 o2 : Bool) (X Y : Option γ) (p q : ρ) (hX : o1 = true → X = some (k p)) (hY : o2 = true → Y = some (k q)) :
    (bif b then o1 else o2) = true → (bif b then X else Y) = some (k (bif b then p else q)) := by cases b <;> assumption
theorem pn_leaf {ρ γ : Type} (k : ρ → γ) (p : ρ) : true = true → some (k p) = some (k p) := fun _ => rfl
theorem pn_none {γ : Type} (X Y : Option γ) : false = true → X = Y := fun h => by simp at h

/-! flat data -/
mutual
def leaves {H : Type} : DataW H → List Lit
  | .lit l => [l]
  | .agg ps => leavesL ps
  | _ => []
def leavesL {H : Type} : List (DataW H) → List Lit
  | [] => []
  | d :: r => leaves d ++ leavesL r
end
inductive CK where
  | i (k : IntKind)
  | b
  | s
def CK.fits : CK → Lit → Prop
  | .i k, .int k' n => k' = k ∧ (Lit.int k n).wf = true
  | .b, .bool _ => True
  | .s, .string l => l.length ≤ maxLen
  | _, _ => False
def AllF : List CK → List Lit → Prop
  | [], [] => True
  | k :: ks, l :: ls => k.fits l ∧ AllF ks ls
  | [], _ :: _ => False
  | _ :: _, [] => False
theorem AllF_append : ∀ {ks ls : List _} {ks' ls' : List _}, AllF ks ls → AllF ks' ls' → AllF (ks ++ ks') (ls ++ ls')
  | [], [], _, _, _, h => h
  | _ :: _, _ :: _, _, _, h, h' => by simp only [AllF] at h; simp only [List.cons_append, AllF]; exact ⟨h.1, AllF_append h.2 h'⟩
  | [], _ :: _, _, _, h, _ => by simp [AllF] at h
  | _ :: _, [], _, _, h, _ => by simp [AllF] at h
def kindsFs (rec : TypeId → Option (List CK)) (P : Program) (off : Nat) : List Field → Option (List CK)
  | [] => some []
  | f :: r => bif Nat.beq f.offset off then (match rec f.type with
      | none => none
      | some ks => bif Nat.beq (P.cellsOf f.type) ks.length then (match kindsFs rec P (off + ks.length) r with
        | none => none
        | some l => some (ks ++ l)) else none) else none
def repK : Nat → List CK → List CK
  | 0, _ => []
  | n + 1, ks => ks ++ repK n ks
def kindsOf (P : Program) : Nat → TypeId → Option (List CK)
  | 0, _ => none
  | d + 1, t => match P.underlying t with
    | some (.array n e) => match kindsOf P d e with
      | none => none
      | some ks => bif Nat.beq ks.length (P.cellsOf e) && Nat.beq (n * ks.length) (P.cellsOf t) then some (repK n ks) else none
    | some .bool => some [.b]
    | some (.int k) => some [.i k]
    | some .string => some [.s]
    | some (.struct fs) => match kindsFs (kindsOf P d) P 0 fs.toList with
      | none => none
      | some ks => bif Nat.beq ks.length (P.cellsOf t) then some ks else none
    | _ => none

section
variable {H : Type} {enc : TypeId × Value → H} {P : Program} {w : World} {base : Nat} {spare : Nat → Bool} {held : Bool}
theorem trod_fields {d : Nat} (ih : ∀ (t : TypeId) (ks : List CK), kindsOf P d t = some ks → ∀ (fuel : Nat) (cs : List Value) (x : DataW H × List MemPlace), DataW.trod enc P w base spare held fuel t cs = some x →
      cs = (leaves x.1).map Lit.value ∧ AllF ks (leaves x.1) ∧ x.2 = []) {n : Nat} {cs : List Value} : ∀ (fs : List Field) (off : Nat) (ks : List CK) (xs : List (DataW H × List MemPlace)), kindsFs (kindsOf P d) P off fs = some ks →
    (∀ (i : Nat) (f : Field), fs[i]? = some f → DataW.trod enc P w base spare held n f.type ((cs.drop f.offset).take (P.cellsOf f.type)) = xs[i]?) → xs.length = fs.length → cs.length = off + ks.length →
    cs.drop off = (leavesL (xs.map (·.1))).map Lit.value ∧ AllF ks (leavesL (xs.map (·.1))) ∧ xs.flatMap (·.2) = []
  | [], off, ks, xs, hk, hf, hl, hc => by
    simp only [kindsFs, Option.some.injEq] at hk
    subst hk
    have : xs = [] := List.length_eq_zero_iff.1 (by simpa using hl)
    subst this
    simp only [List.length_nil, Nat.add_zero] at hc
    simp [leavesL, AllF, ← hc]
  | f :: r, off, ks, [], hk, hf, hl, hc => by simp at hl
  | f :: r, off, ks, y :: ys, hk, hf, hl, hc => by
    simp only [kindsFs] at hk
    cases ho : Nat.beq f.offset off with
    | false => simp [ho] at hk
    | true =>
      simp only [ho, cond_true] at hk
      have ho' := Nat.eq_of_beq_eq_true ho
      split at hk <;> try (simp at hk; done)
      rename_i k1 hk1
      cases hz : Nat.beq (P.cellsOf f.type) k1.length with
      | false => simp [hz] at hk
      | true =>
        simp only [hz, cond_true] at hk
        have hz' := Nat.eq_of_beq_eq_true hz
        split at hk <;> try (simp at hk; done)
        rename_i l hl2
        simp only [Option.some.injEq] at hk
        subst hk
        have h0 := hf 0 f rfl
        simp only [List.getElem?_cons_zero] at h0
        rw [ho', hz'] at h0
        obtain ⟨e1, e2, e3⟩ := ih _ _ hk1 n _ y h0
        have hrest := trod_fields ih (n := n) (cs := cs) r (off + k1.length) l ys hl2 (fun i g hg => by simpa using hf (i + 1) g (by simpa using hg)) (by simpa using hl) (by simp at hc ⊢; omega)
        obtain ⟨g1, g2, g3⟩ := hrest
        refine ⟨?_, ?_, ?_⟩
        · rw [← List.take_append_drop k1.length (cs.drop off), e1, List.drop_drop, g1]
          simp [leavesL]
        · simp only [List.map_cons, leavesL]; exact AllF_append e2 g2
        · simp [e3, g3]
theorem trod_elems {d m : Nat} {e : TypeId} {ks : List CK} (hk : kindsOf P d e = some ks) (ih : ∀ (t : TypeId) (ks : List CK), kindsOf P d t = some ks → ∀ (fuel : Nat) (cs : List Value) (x : DataW H × List MemPlace), DataW.trod enc P w base spare held fuel t cs = some x →
      cs = (leaves x.1).map Lit.value ∧ AllF ks (leaves x.1) ∧ x.2 = []) {cs : List Value} : ∀ (k i0 : Nat) (xs : List (DataW H × List MemPlace)), xs.length = k →
    (∀ i, i < k → DataW.trod enc P w base spare held m e ((cs.drop ((i0 + i) * ks.length)).take ks.length) = xs[i]?) → cs.length = (i0 + k) * ks.length →
    cs.drop (i0 * ks.length) = (leavesL (xs.map (·.1))).map Lit.value ∧ AllF (repK k ks) (leavesL (xs.map (·.1))) ∧ xs.flatMap (·.2) = []
  | 0, i0, xs, hl, hf, hc => by
    have : xs = [] := List.length_eq_zero_iff.1 hl
    subst this
    simp only [Nat.add_zero] at hc
    simp [leavesL, AllF, repK, ← hc]
  | k + 1, i0, [], hl, hf, hc => by simp at hl
  | k + 1, i0, y :: ys, hl, hf, hc => by
    have h0 := hf 0 (by omega)
    simp only [Nat.add_zero, List.getElem?_cons_zero] at h0
    obtain ⟨e1, e2, e3⟩ := ih _ _ hk m _ y h0
    obtain ⟨g1, g2, g3⟩ := trod_elems hk ih (cs := cs) k (i0 + 1) ys (by simpa using hl) (fun i hi => by
      have := hf (i + 1) (by omega)
      rw [show i0 + (i + 1) = i0 + 1 + i by omega] at this
      simpa using this) (by rw [hc]; congr 1; omega)
    refine ⟨?_, ?_, ?_⟩
    · rw [← List.take_append_drop ks.length (cs.drop (i0 * ks.length)), e1, List.drop_drop, show i0 * ks.length + ks.length = (i0 + 1) * ks.length by rw [Nat.succ_mul], g1]
      simp [leavesL]
    · simp only [List.map_cons, leavesL, repK]; exact AllF_append e2 g2
    · simp [e3, g3]
theorem trod_flat : ∀ (d : Nat) (t : TypeId) (ks : List CK), kindsOf P d t = some ks → ∀ (fuel : Nat) (cs : List Value) (x : DataW H × List MemPlace), DataW.trod enc P w base spare held fuel t cs = some x →
      cs = (leaves x.1).map Lit.value ∧ AllF ks (leaves x.1) ∧ x.2 = [] := by
  intro d
  induction d with
  | zero => intro t ks h; simp [kindsOf] at h
  | succ d ih =>
    intro t ks h fuel cs x hx
    simp only [kindsOf] at h
    split at h <;> try (simp at h; done)
    · rename_i n e hu
      split at h <;> try (simp at h; done)
      rename_i ks' hk
      obtain ⟨hb, h'⟩ := bif_t h
      clear h
      simp only [Option.some.injEq] at h'
      subst h'
      simp only [Bool.and_eq_true] at hb
      have b1 := Nat.eq_of_beq_eq_true hb.1
      have b2 := Nat.eq_of_beq_eq_true hb.2
      obtain ⟨xs, m, _, rfl, hl, hlen, hf⟩ := DataW.trod_array hu hx
      have := trod_elems (H := H) (enc := enc) (w := w) (base := base) (spare := spare) (held := held) (m := m) hk ih (cs := cs) n 0 xs hlen (fun i hi => by simpa [b1] using hf i hi) (by rw [hl, ← b2]; simp)
      simpa [leaves] using this
    · rename_i hu
      simp only [Option.some.injEq] at h; subst h
      cases fuel with
      | zero => simp [DataW.trod] at hx
      | succ fuel =>
        unfold DataW.trod at hx
        rw [hu] at hx
        split at hx <;> simp_all
        obtain rfl := hx
        simp [leaves, Lit.value, AllF, CK.fits]
    · rename_i k hu
      simp only [Option.some.injEq] at h; subst h
      obtain ⟨n, rfl, rfl, hw⟩ := DataW.trod_int hu hx
      simp [leaves, Lit.value, AllF, CK.fits, hw]
    · rename_i hu
      simp only [Option.some.injEq] at h; subst h
      cases fuel with
      | zero => simp [DataW.trod] at hx
      | succ fuel =>
        unfold DataW.trod at hx
        rw [hu] at hx
        split at hx <;> simp_all
        obtain ⟨hm, rfl⟩ := hx
        simp [leaves, Lit.value, AllF, CK.fits, hm]
    · rename_i fs hu
      split at h <;> try (simp at h; done)
      rename_i ks' hk
      cases hb : Nat.beq ks'.length (P.cellsOf t) with
      | false => simp [hb] at h
      | true =>
        simp only [hb, cond_true, Option.some.injEq] at h
        subst h
        have hb' := Nat.eq_of_beq_eq_true hb
        obtain ⟨xs, n, _, rfl, hl, hlen, hf⟩ := DataW.trod_struct hu hx
        have := trod_fields (H := H) (enc := enc) (w := w) (base := base) (spare := spare) (held := held) ih (n := n) (cs := cs) fs.toList 0 ks' xs hk (fun i f h => hf i f (by simpa using h)) (by simpa using hlen) (by omega)
        simpa [leaves] using this
end

/-- a flat argument, whole: its value, out of the leaves of its datum -/
theorem open_flat {H : Type} {enc : TypeId × Value → H} {P : Program} {w : World} {base b0 : Nat} {spare : Nat → Bool} {held : Bool} {r : Reach} {t : TypeId} {v : Value} {d : DataW H} {p : List MemPlace} {ks : List CK} {fs : Array Field}
    (hu : P.underlying t = some (.struct fs)) (hk : kindsOf P 9 t = some ks) (hv : Value.okWide P w r b0 t v) (h : DataW.Trod enc P w base spare held t v d p) :
    v = .agg ((leaves d).map Lit.value).toArray ∧ AllF ks (leaves d) ∧ p = [] := by
  obtain ⟨cs, rfl, hsz⟩ := Go.WideShapes.okWide_struct hu hv
  obtain ⟨fuel, hf⟩ := h
  obtain ⟨e1, e2, e3⟩ := trod_flat 9 t ks hk fuel _ _ hf
  refine ⟨?_, e2, e3⟩
  simp only [Value.cells] at e1
  rw [← e1]
theorem AllF_i {k : IntKind} {ks : List CK} {ls : List Lit} (h : AllF (.i k :: ks) ls) : ∃ n r, ls = .int k n :: r ∧ (Lit.int k n).wf = true ∧ AllF ks r := by
  cases ls with
  | nil => simp [AllF] at h
  | cons l r =>
    simp only [AllF] at h
    cases l <;> simp only [CK.fits] at h <;> try exact h.1.elim
    rename_i k' n
    obtain ⟨⟨rfl, hw⟩, h2⟩ := h
    exact ⟨n, r, rfl, hw, h2⟩
theorem AllF_b {ks : List CK} {ls : List Lit} (h : AllF (.b :: ks) ls) : ∃ n r, ls = .bool n :: r ∧ AllF ks r := by
  cases ls with
  | nil => simp [AllF] at h
  | cons l r =>
    simp only [AllF] at h
    cases l <;> simp only [CK.fits] at h <;> try exact h.1.elim
    rename_i n
    exact ⟨n, r, rfl, h.2⟩
theorem AllF_nil {ls : List Lit} (h : AllF [] ls) : ls = [] := by cases ls <;> simp_all [AllF]

end
end Go.Wk


set_option autoImplicit false
set_option linter.unusedVariables false
set_option linter.unusedSimpArgs false
set_option linter.unnecessarySimpa false
namespace Go.Wk
noncomputable section
open Go Go.RowKit

def loopsOf : Code → List Code
  | .seq a b => loopsOf a ++ loopsOf b
  | .cond _ a b => loopsOf a ++ loopsOf b
  | .block _ b => loopsOf b
  | .scope b => loopsOf b
  | .loop b => b :: loopsOf b
  | _ => []
theorem LoopsOK_of {P : Program} {G : Glob} {S : List (Nat × LSum)} : ∀ {c : Code}, (∀ B ∈ loopsOf c, ∀ F, lookS S (hd B) = some F → SoundL P G B F) → LoopsOK P G S c
  | .seq a b, h => ⟨LoopsOK_of fun B hB => h B (by simp [loopsOf, hB]), LoopsOK_of fun B hB => h B (by simp [loopsOf, hB])⟩
  | .cond _ a b, h => ⟨LoopsOK_of fun B hB => h B (by simp [loopsOf, hB]), LoopsOK_of fun B hB => h B (by simp [loopsOf, hB])⟩
  | .block _ b, h => LoopsOK_of (c := b) fun B hB => h B (by simpa [loopsOf] using hB)
  | .scope b, h => LoopsOK_of (c := b) fun B hB => h B (by simpa [loopsOf] using hB)
  | .loop b, h => ⟨fun F hF => h b (by simp [loopsOf]) F hF, LoopsOK_of (c := b) fun B hB => h B (by simp [loopsOf, hB])⟩
  | .skip, _ => trivial
  | .region _ _ _, _ => trivial
  | .rangeFunc _ _ _ _, _ => trivial
  | .exit _, _ => trivial
  | .label _, _ => trivial
  | .goto _, _ => trivial
  | .ret, _ => trivial
  | .refuse _, _ => trivial
def loopL (fn : Func) : List Code := match fn.body with
  | some c => loopsOf c
  | none => []
def loopN (fn : Func) (i : Nat) : Code := (loopL fn).getD i .skip
theorem LoopsOK_fn {P : Program} {G : Glob} {S : List (Nat × LSum)} {fn : Func} (h : ∀ i, i < (loopL fn).length → ∀ F, lookS S (hd (loopN fn i)) = some F → SoundL P G (loopN fn i) F) : ∀ c, fn.body = some c → LoopsOK P G S c := by
  intro c hc
  refine LoopsOK_of fun B hB F hF => ?_
  have hl : loopL fn = loopsOf c := by simp [loopL, hc]
  rw [← hl] at hB
  obtain ⟨i, hi, rfl⟩ := List.mem_iff_getElem.1 hB
  have e : loopN fn i = (loopL fn)[i] := by simp [loopN, hi]
  rw [← e] at hF ⊢
  exact h i hi F hF
end
end Go.Wk


set_option linter.unusedVariables false
set_option linter.unusedSimpArgs false
set_option autoImplicit false
namespace Go.Wk
noncomputable section
open Go Go.RowKit

/-- what follows a round: the loop again, or what is behind it -/
def roundK {R : Type} (H : Heads) (B : Code) (F : LSum) (k : Xt → St → Option R) (e : Xt) (s : St) : Option R := match e with
  | .nrm => F.run (headT H B s) k
  | .ext i => k (.ext i) s
  | .ret => k .ret s
def noSum : LSum := { run := fun _ _ => none }
def roundS (P : Program) (G : Glob) (T : Tab) (H : Heads) (d : Nat) (B : Code) (F : LSum) : LSum where
  run := fun st k => match st.saved with
    | [] => ex P G T H d B st (roundK H B F k)
    | _ :: _ => none
def sumN (P : Program) (G : Glob) (T : Tab) (H : Heads) (d : Nat) (B : Code) : Nat → LSum
  | 0 => noSum
  | n + 1 => roundS P G T H d B (sumN P G T H d B n)

theorem sumN_run {P : Program} {G : Glob} {T : Tab} {H : Heads} {d : Nat} {B : Code} {n : Nat} {R : Type} {st : St} {k : Xt → St → Option R} (h : st.saved = []) :
    (sumN P G T H d B (n + 1)).run st k = ex P G T H d B st (roundK H B (sumN P G T H d B n) k) := by
  simp only [sumN, roundS, h]
theorem sumN_sound {P : Program} {G : Glob} {T : Tab} (hM : P.follows .mixedOrders = true) (hN : NoCount P) (hT : TabOK P G T) {H : Heads} {d : Nat} {B : Code} (hL : LoopsOK P G H.sums B) (n : Nat) :
    SoundL P G B (sumN P G T H d B n) := by
  have key : ∀ n (R : Type) (st : St) (k : Xt → St → Option R) (r : R), (sumN P G T H d B n).run st k = some r → ∀ (base : Bs) (ρ : Rf) (a : Act) (sv : List (List Value)) (w : World) (Q : Exit → Act → World → Prop), SRel G base ρ st a sv w →
      (∀ e st' ρ' a' w', k e st' = some r → SRel G base ρ' st' a' sv w' → Kp base.kp w w' → Q e.to a' w') → Code.rounds P B Q n a w := by
    intro n
    induction n with
    | zero => intro R st k r h; simp [sumN, noSum] at h
    | succ n ih =>
      intro R st k r h base ρ a sv w Q S hQ
      simp only [sumN, roundS] at h
      split at h <;> try (simp at h; done)
      rename_i hs
      rw [rounds_succ]
      refine ex_sound hM hN hT H d B st _ r (fun _ => hL) h base ρ a sv w _ S ?_
      intro e st' ρ' a' w' hk S' hb
      cases e with
      | nrm => exact ih R _ k r hk base ρ' a' sv w' Q (headT_rel S') fun e2 st2 ρ2 a2 w2 h2 S2 hb2 => hQ e2 st2 ρ2 a2 w2 h2 S2 (hb.trans hb2)
      | ext i => exact hQ _ _ _ _ _ hk S' hb
      | ret => exact hQ _ _ _ _ _ hk S' hb
  intro R st k r h base ρ a sv w Q S hQ
  exact wp_loop_rounds n (key n R st k r h base ρ a sv w Q S hQ)

/-- what is behind a place of a code -/
def kAt {R : Type} (P : Program) (G : Glob) (T : Tab) (H : Heads) : List Nat → Nat → Code → (Xt → St → Option R) → Xt → St → Option R
  | p, d + 1, .seq a b, k => match p with
    | 0 :: p => kAt P G T H p d a fun e st' => match e with
        | .nrm => ex P G T H d b st' k
        | e => k e st'
    | _ :: p => kAt P G T H p d b k
    | [] => k
  | p, d + 1, .cond _ a b, k => match p with
    | 0 :: p => kAt P G T H p d a k
    | _ :: p => kAt P G T H p d b k
    | [] => k
  | p, d + 1, .block id b, k => match p with
    | _ :: p => kAt P G T H p d b fun e st' => match e with
        | .ext i => bif Nat.beq i id then k .nrm st' else k e st'
        | e => k e st'
    | [] => k
  | p, d + 1, .scope b, k => match p with
    | _ :: p => kAt P G T H p d b k
    | [] => k
  | _, _, _, k => k
/-- the loop's body at a place -/
def loopAt : List Nat → Code → Code
  | p, .seq a b => match p with
    | 0 :: p => loopAt p a
    | _ :: p => loopAt p b
    | [] => .skip
  | p, .cond _ a b => match p with
    | 0 :: p => loopAt p a
    | _ :: p => loopAt p b
    | [] => .skip
  | p, .block _ b => match p with
    | _ :: p => loopAt p b
    | [] => .skip
  | p, .scope b => match p with
    | _ :: p => loopAt p b
    | [] => .skip
  | p, .loop b => match p with
    | _ :: p => loopAt p b
    | [] => b
  | _, _ => .skip
def fbody (fn : Func) : Code := match fn.body with
  | some c => c
  | none => .skip

theorem LoopsOK_code {P : Program} {G : Glob} {S : List (Nat × LSum)} {c : Code} (h : ∀ i, i < (loopsOf c).length → ∀ F, lookS S (hd ((loopsOf c).getD i .skip)) = some F → SoundL P G ((loopsOf c).getD i .skip) F) : LoopsOK P G S c := by
  refine LoopsOK_of fun B hB F hF => ?_
  obtain ⟨i, hi, rfl⟩ := List.mem_iff_getElem.1 hB
  have e : (loopsOf c).getD i .skip = (loopsOf c)[i] := by simp [hi]
  rw [← e] at hF ⊢
  exact h i hi F hF
theorem LoopsOK_body {P : Program} {G : Glob} {S : List (Nat × LSum)} {fn : Func} (h : LoopsOK P G S (fbody fn)) (c : Code) (hc : fn.body = some c) : LoopsOK P G S c := by
  simpa [fbody, hc] using h
/-- one loop of a list, known by its number -/
theorem soundAt {P : Program} {G : Glob} {S : List (Nat × LSum)} {B B' : Code} {F F' : LSum} (e : B = B') (h' : lookS S (hd B) = some F') (h : SoundL P G B' F') (hF : lookS S (hd B) = some F) : SoundL P G B F := by
  subst e
  rw [h'] at hF
  cases hF
  exact h
theorem TabOK_mkH {P : Program} {G : Glob} {α : Type} {l : TL} {f : Nat} {fn : Func} {s : PS α} {g : α → Bool} {r : α → Value} (C : Cx P G) (h : TabOK P G (tab l)) (hf : P.funcs[f]? = some fn) (hb : fn.body.isNone = false)
    (H : α → Heads) (hL : ∀ p, LoopsOK P G (H p).sums (fbody fn)) (d : Nat) (hF : ∀ p, g p = true → runF P G (tab l) (H p) d fn (s.enc p) = some (r p)) : TabOK P G (tab ((f, mkF s g r) :: l)) :=
  TabOK_run C h hf hb fun vs v hv => by
    obtain ⟨p, rfl, hg, rfl⟩ := mkF_inv hv
    exact ⟨H p, d, LoopsOK_body (hL p), hF p hg⟩

theorem pm {γ δ : Type} (f : γ → δ) (b : Bool) (X Y : Option δ) (p q : Option γ) (hX : X = p.map f) (hY : Y = q.map f) : (bif b then X else Y) = (bif b then p else q).map f := by cases b <;> assumption
end
end Go.Wk


set_option linter.unusedVariables false
set_option autoImplicit false
namespace Go.Wk
open Go

theorem wi_eq (x : Int) : IntKind.i64.wrap x = (x + 9223372036854775808) % 18446744073709551616 - 9223372036854775808 := by
  have e : IntKind.i64.wrap x = if x % 18446744073709551616 ≥ 9223372036854775808 then x % 18446744073709551616 - 18446744073709551616 else x % 18446744073709551616 := by
    simp [IntKind.wrap, IntKind.signed, IntKind.bits]
  rw [e]; split <;> omega
theorem wu_eq (x : Int) : IntKind.u64.wrap x = x % 18446744073709551616 := by simp [IntKind.wrap, IntKind.signed, IntKind.bits]
theorem wi_id {x : Int} (h1 : -9223372036854775808 ≤ x) (h2 : x ≤ 9223372036854775807) : IntKind.i64.wrap x = x := by rw [wi_eq]; omega
theorem wu_id {x : Int} (h1 : 0 ≤ x) (h2 : x < 18446744073709551616) : IntKind.u64.wrap x = x := by rw [wu_eq]; omega
theorem wi_lo (x : Int) : -9223372036854775808 ≤ IntKind.i64.wrap x := by rw [wi_eq]; omega
theorem wi_hi (x : Int) : IntKind.i64.wrap x ≤ 9223372036854775807 := by rw [wi_eq]; omega
theorem wu_lo (x : Int) : 0 ≤ IntKind.u64.wrap x := by rw [wu_eq]; omega
theorem wu_hi (x : Int) : IntKind.u64.wrap x < 18446744073709551616 := by rw [wu_eq]; omega
/-- a number of 64 bits, with its sign -/
def I64 (x : Int) : Prop := -9223372036854775808 ≤ x ∧ x ≤ 9223372036854775807
def U64 (x : Int) : Prop := 0 ≤ x ∧ x < 18446744073709551616
theorem i64_wf {x : Int} (h : (Lit.int .i64 x).wf = true) : I64 x := by
  have e1 : IntKind.i64.min = -9223372036854775808 := by decide
  have e2 : IntKind.i64.max = 9223372036854775807 := by decide
  simp only [Lit.wf, Bool.and_eq_true, decide_eq_true_eq, e1, e2] at h
  exact h
theorem u64_wf {x : Int} (h : (Lit.int .u64 x).wf = true) : U64 x := by
  have e1 : IntKind.u64.min = 0 := by decide
  have e2 : IntKind.u64.max = 18446744073709551615 := by decide
  simp only [Lit.wf, Bool.and_eq_true, decide_eq_true_eq, e1, e2] at h
  exact ⟨h.1, by have := h.2; omega⟩
end Go.Wk

