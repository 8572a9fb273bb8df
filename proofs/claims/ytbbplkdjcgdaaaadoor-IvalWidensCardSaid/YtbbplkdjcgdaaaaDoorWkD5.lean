/- The walk by evaluation, part D5: branches that only compute are joined again. Conditions: none. -/
import Derived.Test.YtbbplkdjcgdaaaaDoorWkD4
set_option autoImplicit false
set_option linter.unusedVariables false
set_option linter.unusedSimpArgs false
set_option linter.unnecessarySimpa false
namespace Go.Wk
open Go Go.RowKit

def okOp (o : Oper) : Bool := match o.guard with
  | some _ => false
  | none => match o.op with
    | .move _ => true
    | .assign _ => true
    | .load _ _ => true
    | .build _ _ => true
    | .unOp _ _ _ => true
    | .convert _ _ _ => true
    | .fieldAddr _ _ _ => true
    | .field _ _ _ => true
    | .extract _ _ => true
    | .call _ => true
    | .binOp op _ _ _ _ => match op with
      | .quo => false
      | .rem => false
      | .shl => false
      | .shr => false
      | _ => true
    | _ => false
def okOps : List Oper → Bool
  | [] => true
  | o :: r => okOp o && okOps r
/-- the temporary by which an operation writes -/
def adrO (o : Oper) : Option Nat := match o.op with
  | .store _ (.tmp t) _ => some t
  | _ => none
def okOpS (o : Oper) : Bool := okOp o || (match o.guard with
  | some _ => false
  | none => match adrO o with
    | some _ => true
    | none => false)
def okOpsS : List Oper → Bool
  | [] => true
  | o :: r => okOpS o && okOpsS r
def okC : Code → Bool
  | .skip => true
  | .region _ ops draw => bif draw then okOps ops.toList else okOpsS ops.toList
  | .seq a b => okC a && okC b
  | .cond _ a b => okC a && okC b
  | _ => false
def mergeV (b : Bool) (u v : SV) : SV := match u with
  | .val (.int k n) => match v with
    | .val (.int k' m) => bif decide (k = k') then .val (.int k (bif b then n else m)) else .unk
    | _ => .unk
  | .val (.bool n) => match v with
    | .val (.bool m) => .val (.bool (bif b then n else m))
    | _ => .unk
  | .val (.string n) => match v with
    | .val (.string m) => .val (.string (bif b then n else m))
    | _ => .unk
  | .ptr i o => match v with
    | .ptr i' o' => bif Nat.beq i i' && Nat.beq o o' then u else .unk
    | _ => .unk
  | .glob i o => match v with
    | .glob i' o' => bif Nat.beq i i' && Nat.beq o o' then u else .unk
    | _ => .unk
  | _ => .unk
def dsts : Code → List Nat
  | .region _ ops _ => ops.toList.filterMap (·.dst)
  | .seq a b => dsts a ++ dsts b
  | .cond _ a b => dsts a ++ dsts b
  | _ => []
def adr : Code → List Nat
  | .region _ ops _ => ops.toList.filterMap adrO
  | .seq a b => adr a ++ adr b
  | .cond _ a b => adr a ++ adr b
  | _ => []
def root : SV → Option Nat
  | .ptr i _ => some i
  | _ => none
def touched (tm : List SV) : List Nat → List Nat
  | [] => []
  | t :: r => match root (nth tm t) with
    | some i => i :: touched tm r
    | none => touched tm r
def disj : List Nat → List Nat → Bool
  | [], _ => true
  | t :: r, ws => !memN t ws && disj r ws
def mergeA (b : Bool) : List SV → List SV → List SV
  | u :: us, v :: vs => mergeV b u v :: mergeA b us vs
  | _, _ => []
def mergeO (b : Bool) (x y : Option LB) : Option LB := match x with
  | some cx => match y with
    | some cy => bif Nat.beq cx.elem cy.elem && Nat.beq cx.cells.length cy.cells.length then some ⟨mergeA b cx.cells cy.cells, cx.elem⟩ else none
    | none => none
  | none => none
def mergeB (b : Bool) (tl : List Nat) : Nat → List (Option LB) → List (Option LB) → List (Option LB)
  | i, x :: xs, y :: ys => (bif memN i tl then mergeO b x y else x) :: mergeB b tl (i + 1) xs ys
  | _, _, _ => []
def mergeL (b : Bool) (ws : List Nat) : Nat → List SV → List SV → List SV
  | i, u :: us, v :: vs => (bif memN i ws then mergeV b u v else u) :: mergeL b ws (i + 1) us vs
  | _, _, _ => []

section
variable (P : Program) (G : Glob) (T : Tab)
def exP : Code → St → Option St
  | .skip, st => some st
  | .region _ ops draw, st => bif draw then (bif okOps ops.toList then exD P G T ops st some else none)
      else (bif okOpsS ops.toList then exOps P G T (fun _ _ _ => none) ops ops.toList st.blks.length st some else none)
  | .seq a b, st => match exP a st with
    | some st' => exP b st'
    | none => none
  | .cond c x y, st => bif disj (adr x ++ adr y) (dsts x ++ dsts y) then (match ev st.tmps c with
    | .val (.bool b) => match exP x st with
      | some sx => match exP y st with
        | some sy => some { tmps := mergeL b (dsts x ++ dsts y) 0 sx.tmps sy.tmps, blks := mergeB b (touched st.tmps (adr x ++ adr y)) 0 sx.blks sy.blks, saved := st.saved }
        | none => none
      | none => none
    | _ => none) else none
  | _, _ => none
end

/-- what a computing piece leaves alone -/
structure Kept (ws as : List Nat) (st r : St) : Prop where
  blks : ∀ i, memN i (touched st.tmps as) = false → blk? r.blks i = blk? st.blks i
  bl : r.blks.length = st.blks.length
  saved : r.saved = st.saved
  len : r.tmps.length = st.tmps.length
  tmps : ∀ t, memN t ws = false → nth r.tmps t = nth st.tmps t
theorem memN_iff : ∀ {l : List Nat} {t : Nat}, memN t l = true ↔ t ∈ l
  | [], t => by simp [memN]
  | x :: r, t => by
    simp only [memN, Bool.or_eq_true, List.mem_cons, memN_iff (l := r)]
    constructor
    · rintro (h | h)
      · exact .inl (Nat.eq_of_beq_eq_true h).symm
      · exact .inr h
    · rintro (rfl | h)
      · exact .inl (by simp)
      · exact .inr h
theorem mem_touched {tm : List SV} {i : Nat} : ∀ {as : List Nat}, i ∈ touched tm as ↔ ∃ t ∈ as, root (nth tm t) = some i
  | [] => by simp [touched]
  | t :: r => by
    simp only [touched]
    split
    · rename_i j hj
      simp only [List.mem_cons, mem_touched (as := r), exists_eq_or_imp, hj, Option.some.injEq]
      constructor
      · rintro (rfl | h)
        · exact .inl rfl
        · exact .inr h
      · rintro (rfl | h)
        · exact .inl rfl
        · exact .inr h
    · rename_i hj
      simp only [List.mem_cons, mem_touched (as := r), exists_eq_or_imp, hj, reduceCtorEq, false_or]
theorem memN_no {l : List Nat} {t : Nat} : memN t l = false ↔ t ∉ l := by
  cases h : memN t l with
  | true => simp [memN_iff.1 h]
  | false =>
    simp only [true_iff]
    intro hm
    rw [memN_iff.2 hm] at h
    simp at h
theorem touched_same {ws as : List Nat} {a b : St} (hd : ∀ t ∈ as, memN t ws = false) (h : ∀ t, memN t ws = false → nth b.tmps t = nth a.tmps t) (i : Nat) : i ∈ touched b.tmps as ↔ i ∈ touched a.tmps as := by
  simp only [mem_touched]
  constructor
  · rintro ⟨t, ht, e⟩; exact ⟨t, ht, by rw [← h t (hd t ht)]; exact e⟩
  · rintro ⟨t, ht, e⟩; exact ⟨t, ht, by rw [h t (hd t ht)]; exact e⟩
theorem disj_spec : ∀ {as ws : List Nat}, disj as ws = true → ∀ t ∈ as, memN t ws = false
  | [], _, _, t, ht => by simp at ht
  | a :: r, ws, h, t, ht => by
    simp only [disj, Bool.and_eq_true, Bool.not_eq_true'] at h
    rcases List.mem_cons.1 ht with rfl | ht
    · exact h.1
    · exact disj_spec h.2 t ht
theorem Kept.refl (ws as : List Nat) (st : St) : Kept ws as st st := ⟨fun _ _ => rfl, rfl, rfl, rfl, fun _ _ => rfl⟩
theorem Kept.trans {ws as : List Nat} {a b c : St} (hd : ∀ t ∈ as, memN t ws = false) (h : Kept ws as a b) (k : Kept ws as b c) : Kept ws as a c :=
  ⟨fun i hi => (k.blks i (by rw [memN_no] at hi ⊢; rwa [touched_same hd h.tmps])).trans (h.blks i hi), k.bl.trans h.bl, k.saved.trans h.saved, k.len.trans h.len, fun t ht => (k.tmps t ht).trans (h.tmps t ht)⟩
theorem setN_len : ∀ (l : List SV) (d : Nat) (v : SV), (setN l d v).length = l.length
  | [], _, _ => rfl
  | _ :: _, 0, _ => rfl
  | _ :: l, d + 1, v => by simp [setN, setN_len l d v]
theorem Kept.put {ws as : List Nat} {st : St} {d : Option Tmp} {v : SV} (h : ∀ t, d = some t → t ∈ ws) : Kept ws as st { st with tmps := putD st.tmps d v } := by
  refine ⟨fun _ _ => rfl, rfl, rfl, ?_, ?_⟩
  · cases d <;> simp [putD, setN_len]
  · intro t ht
    refine nth_putD fun k hk e => ?_
    subst e
    have := memN_iff.2 (h _ hk)
    rw [ht] at this
    simp at this
theorem Kept.store {ws as : List Nat} {st st' : St} {d : Option Tmp} {i p : Nat} {cs : List SV} (h : ∀ t, d = some t → t ∈ ws) (hp : stPut st d i p cs = some st') (hi : i ∈ touched st.tmps as) : Kept ws as st st' := by
  unfold stPut at hp
  split at hp <;> try (simp at hp; done)
  obtain ⟨_, hp⟩ := bif_t hp
  simp only [Option.some.injEq] at hp
  subst hp
  have k := Kept.put (as := as) (st := st) (v := .val undef) h
  exact ⟨fun j hj => blk?_setB_ne _ _ _ _ (fun e => by subst e; exact memN_no.1 hj hi), setB_len _ _ _, rfl, k.len, k.tmps⟩

section
variable {P : Program} {G : Glob} {T : Tab} {base : Nat}

theorem okOp_new {o : Oper} (h : okOp o = true) : isNew o = false ∧ isPut o = false ∧ o.guard = none := by
  obtain ⟨dst, op, type, pos, after, guard⟩ := o
  unfold okOp at h
  simp only at h
  split at h
  · simp at h
  · cases op <;> simp_all [isNew, isPut]

theorem okOpS_new {o : Oper} (h : okOpS o = true) : isNew o = false ∧ o.guard = none ∧ (isPut o = true → ∃ t ty v, o.op = .store ty (.tmp t) v) := by
  unfold okOpS at h
  simp only [Bool.or_eq_true] at h
  rcases h with h | h
  · obtain ⟨h1, h2, h3⟩ := okOp_new h
    exact ⟨h1, h3, fun e => by rw [h2] at e; simp at e⟩
  · obtain ⟨dst, op, type, pos, after, guard⟩ := o
    split at h <;> try (simp at h; done)
    rename_i hg
    simp only at hg
    split at h <;> try (simp at h; done)
    rename_i t ht
    unfold adrO at ht
    simp only at ht
    split at ht <;> try (simp at ht; done)
    rename_i ty t' v
    exact ⟨rfl, hg, fun _ => ⟨_, _, _, rfl⟩⟩
theorem opP_store {e : Operand → SV} {o : Oper} {ty : TypeId} {x v : Operand} {i p : Nat} {cs : List SV} (ho : o.op = .store ty x v) (h : opP P e o = some (i, p, cs)) : ∃ q, e x = .ptr i q := by
  unfold opP at h
  rw [ho] at h
  simp only at h
  split at h <;> try (simp at h; done)
  rename_i i' p' hx
  split at h <;> try (simp at h; done)
  split at h <;> try (simp at h; done)
  obtain ⟨_, h⟩ := bif_t h
  simp only [Option.some.injEq, Prod.mk.injEq] at h
  exact ⟨p', by rw [hx, h.1]⟩
theorem exOps_kept {ops : Array Oper} {ws as : List Nat} (hd : ∀ t ∈ as, memN t ws = false) : ∀ (os : List Oper) (n : Nat) (st r : St), okOpsS os = true → (∀ o ∈ os, ∀ t, o.dst = some t → t ∈ ws) → (∀ o ∈ os, ∀ t, adrO o = some t → t ∈ as) → exOps P G T (fun _ _ _ => none) ops os n st some = some r → Kept ws as st r
  | [], n, st, r, _, _, _, h => by simp only [exOps, Option.some.injEq] at h; subst h; exact .refl _ _ _
  | o :: os, n, st, r, hok, hws, has, h => by
    simp only [okOpsS, Bool.and_eq_true] at hok
    obtain ⟨h1, h3, h2⟩ := okOpS_new hok.1
    simp only [exOps, stepE, gd, h3, stepRun] at h
    have rest := fun n st r => exOps_kept (ops := ops) hd os n st r hok.2 (fun o' ho' => hws o' (by simp [ho'])) (fun o' ho' => has o' (by simp [ho']))
    split at h
    · rename_i g as hi
      unfold inl at h
      split at h <;> try (simp at h; done)
      split at h <;> simp at h
    · split at h
      · rename_i ok v hv
        obtain ⟨_, h⟩ := bif_t h
        exact (Kept.put (fun t ht => hws o (by simp) t ht)).trans hd (rest _ _ _ h)
      · split at h
        · rename_i hn
          have := opN_new hn
          rw [h1] at this; simp at this
        · split at h <;> try (simp at h; done)
          rename_i i p cs hp
          have := opP_put hp
          obtain ⟨t, ty, v, ho⟩ := h2 this
          split at h <;> try (simp at h; done)
          rename_i st' hst
          obtain ⟨q, hq⟩ := opP_store ho hp
          refine (Kept.store (fun t ht => hws o (by simp) t ht) hst ?_).trans hd (rest _ _ _ h)
          rw [mem_touched]
          refine ⟨t, has o (by simp) t (by simp [adrO, ho]), ?_⟩
          simp only [ev] at hq
          rw [hq]; rfl
theorem exDs_kept {ops : Array Oper} {ws as : List Nat} (hd : ∀ t ∈ as, memN t ws = false) {n0 : Nat} : ∀ (os : List Oper) (i n : Nat) (x : DX) (r : St), okOps os = true → (∀ o ∈ os, ∀ t, o.dst = some t → t ∈ ws) → exDs P G T ops n0 os i n x (fun x => some x.1) = some r → Kept ws as x.1 r
  | [], i, n, x, r, _, _, h => by simp only [exDs, Option.some.injEq] at h; subst h; exact .refl _ _ _
  | o :: os, i, n, x, r, hok, hws, h => by
    simp only [okOps, Bool.and_eq_true] at hok
    obtain ⟨h1, h2, h3⟩ := okOp_new hok.1
    simp only [exDs] at h
    obtain ⟨y, hs, hk⟩ := stepD_spec h
    obtain ⟨f, hf, ha⟩ := stepF_parts hs
    have hrest := exDs_kept hd os _ _ y r hok.2 (fun o' ho' => hws o' (by simp [ho'])) hk
    rcases (evalF_kind hf).1 with hA | ⟨b, _, hn⟩ | ⟨j, p, cs, _, hp⟩
    · obtain ⟨_, rfl⟩ := (applyF_idle hA).1 ha
      exact (Kept.put (st := x.1) (fun t ht => hws o (by simp) t ht)).trans hd hrest
    · rw [h1] at hn; simp at hn
    · rw [h2] at hp; simp at hp
theorem news_ok : ∀ {l : List Oper}, okOps l = true → news l = 0
  | [], _ => rfl
  | o :: r, h => by
    simp only [okOps, Bool.and_eq_true] at h
    simp [news, (okOp_new h.1).1, news_ok h.2]

/-- A COMPUTING PIECE: what it answers, the model does. -/
def GoodP (P : Program) (G : Glob) (c : Code) (st r : St) : Prop :=
  ∀ (base : Nat) (ρ : Nat → Nat) (a : Act) (sv : List (List Value)) (w : World) (Q : Exit → Act → World → Prop), SRel G base ρ st a sv w →
    (∀ ρ' a' w', SRel G base ρ' r a' sv w' → Below base w w' → Q .normal a' w') → c.wp P Q a w

theorem recNone : RecOK (R := St) P G [] (fun _ _ _ => none) := by intro c st k r _ h; simp at h

theorem mergeV_l {ρ : Nat → Nat} {u v : SV} {x : Value} (h : SV.rl ρ u x) : SV.rl ρ (mergeV true u v) x := by
  unfold mergeV
  split
  · rename_i k n
    split
    · rename_i k' m
      by_cases hk : k = k'
      · subst hk; simpa using h
      · simp [hk, SV.rl]
    · simp [SV.rl]
  · split
    · exact h
    · simp [SV.rl]
  · split
    · exact h
    · simp [SV.rl]
  · split
    · rename_i i o _ i' o'
      cases hb : (Nat.beq i i' && Nat.beq o o') with
      | true => exact h
      | false => simp [SV.rl]
    · simp [SV.rl]
  · split
    · rename_i i o _ i' o'
      cases hb : (Nat.beq i i' && Nat.beq o o') with
      | true => exact h
      | false => simp [SV.rl]
    · simp [SV.rl]
  · simp [SV.rl]
theorem mergeV_r {ρ : Nat → Nat} {u v : SV} {x : Value} (h : SV.rl ρ v x) : SV.rl ρ (mergeV false u v) x := by
  unfold mergeV
  split
  · rename_i k n
    split
    · rename_i k' m
      by_cases hk : k = k'
      · subst hk; simpa using h
      · simp [hk, SV.rl]
    · simp [SV.rl]
  · split
    · exact h
    · simp [SV.rl]
  · split
    · exact h
    · simp [SV.rl]
  · split
    · rename_i i o _ i' o'
      cases hb : (Nat.beq i i' && Nat.beq o o') with
      | true =>
        simp only [Bool.and_eq_true] at hb
        rw [Nat.eq_of_beq_eq_true hb.1, Nat.eq_of_beq_eq_true hb.2]; exact h
      | false => simp [SV.rl]
    · simp [SV.rl]
  · split
    · rename_i i o _ i' o'
      cases hb : (Nat.beq i i' && Nat.beq o o') with
      | true =>
        simp only [Bool.and_eq_true] at hb
        rw [Nat.eq_of_beq_eq_true hb.1, Nat.eq_of_beq_eq_true hb.2]; exact h
      | false => simp [SV.rl]
    · simp [SV.rl]
  · simp [SV.rl]
theorem mergeA_l {ρ : Nat → Nat} : ∀ {us vs : List SV} {xs : List Value}, us.length = vs.length → SV.rls ρ us xs → SV.rls ρ (mergeA true us vs) xs
  | [], [], [], _, h => by simp [mergeA, SV.rls]
  | u :: us, v :: vs, x :: xs, hl, h => by
    simp only [SV.rls] at h
    simp only [mergeA, SV.rls]
    exact ⟨mergeV_l h.1, mergeA_l (by simpa using hl) h.2⟩
  | [], _, _ :: _, _, h => by simp [SV.rls] at h
  | _ :: _, _, [], _, h => by simp [SV.rls] at h
  | [], _ :: _, _, h, _ => by simp at h
  | _ :: _, [], _, h, _ => by simp at h
theorem mergeA_r {ρ : Nat → Nat} : ∀ {us vs : List SV} {xs : List Value}, us.length = vs.length → SV.rls ρ vs xs → SV.rls ρ (mergeA false us vs) xs
  | [], [], [], _, h => by simp [mergeA, SV.rls]
  | u :: us, v :: vs, x :: xs, hl, h => by
    simp only [SV.rls] at h
    simp only [mergeA, SV.rls]
    exact ⟨mergeV_r h.1, mergeA_r (by simpa using hl) h.2⟩
  | _, [], _ :: _, _, h => by simp [SV.rls] at h
  | _, _ :: _, [], _, h => by simp [SV.rls] at h
  | [], _ :: _, _, h, _ => by simp at h
  | _ :: _, [], _, h, _ => by simp at h
theorem mergeB_blk {b : Bool} {tl : List Nat} : ∀ (i j : Nat) {xs ys : List (Option LB)}, xs.length = ys.length → blk? (mergeB b tl i xs ys) j = bif memN (i + j) tl then mergeO b (blk? xs j) (blk? ys j) else blk? xs j
  | i, j, [], [], _ => by simp only [mergeB, blk?, mergeO]; cases memN (i + j) tl <;> rfl
  | i, 0, x :: xs, y :: ys, _ => by simp only [mergeB, blk?, Nat.add_zero]
  | i, j + 1, x :: xs, y :: ys, h => by simp only [mergeB, blk?]; rw [mergeB_blk (i + 1) j (by simpa using h), show i + 1 + j = i + (j + 1) by omega]
  | _, _, [], _ :: _, h => by simp at h
  | _, _, _ :: _, [], h => by simp at h
theorem mergeB_len {b : Bool} {tl : List Nat} : ∀ (i : Nat) {xs ys : List (Option LB)}, xs.length = ys.length → (mergeB b tl i xs ys).length = xs.length
  | i, [], [], _ => by simp [mergeB]
  | i, x :: xs, y :: ys, hl => by simp [mergeB, mergeB_len (i + 1) (xs := xs) (ys := ys) (by simpa using hl)]
  | _, [], _ :: _, h => by simp at h
  | _, _ :: _, [], h => by simp at h
theorem mergeO_some {b : Bool} {x y : Option LB} {c : LB} (h : mergeO b x y = some c) : ∃ cx cy, x = some cx ∧ y = some cy ∧ cx.elem = cy.elem ∧ cx.cells.length = cy.cells.length ∧ c = ⟨mergeA b cx.cells cy.cells, cx.elem⟩ := by
  unfold mergeO at h
  split at h <;> try (simp at h; done)
  split at h <;> try (simp at h; done)
  obtain ⟨h1, h⟩ := bif_t h
  simp only [Bool.and_eq_true] at h1
  simp only [Option.some.injEq] at h
  exact ⟨_, _, rfl, rfl, Nat.eq_of_beq_eq_true h1.1, Nat.eq_of_beq_eq_true h1.2, h.symm⟩
theorem mergeB_M {G : Glob} {base : Nat} {ρ : Nat → Nat} {tl : List Nat} {xs ys : List (Option LB)} {w : World} (b : Bool) (hl : xs.length = ys.length) (hsame : ∀ i, memN i tl = false → blk? xs i = blk? ys i) (M : MRel G base ρ (bif b then xs else ys) w) : MRel G base ρ (mergeB b tl 0 xs ys) w := by
  have key : ∀ i c, blk? (mergeB b tl 0 xs ys) i = some c → ∃ c0, blk? (bif b then xs else ys) i = some c0 ∧ c.elem = c0.elem ∧ ∀ vs, SV.rls ρ c0.cells vs → SV.rls ρ c.cells vs := by
    intro i c hc
    rw [mergeB_blk 0 i hl, Nat.zero_add] at hc
    cases hm : memN i tl with
    | true =>
      rw [hm] at hc
      simp only [cond_true] at hc
      obtain ⟨cx, cy, h1, h2, h3, h4, rfl⟩ := mergeO_some hc
      cases b with
      | true => exact ⟨cx, h1, rfl, fun vs hv => mergeA_l h4 hv⟩
      | false => exact ⟨cy, h2, h3, fun vs hv => mergeA_r h4 hv⟩
    | false =>
      rw [hm] at hc
      simp only [cond_false] at hc
      cases b with
      | true => exact ⟨c, hc, rfl, fun _ h => h⟩
      | false => exact ⟨c, by simp only [cond_false]; rw [← hsame i hm]; exact hc, rfl, fun _ h => h⟩
  refine ⟨M.gl, M.glt, ?_, ?_, M.sz⟩
  · intro i c hc
    obtain ⟨c0, h1, h2, h3⟩ := key i c hc
    obtain ⟨vs, hx, hr, hb⟩ := M.bk i c0 h1
    exact ⟨vs, by rw [h2]; exact hx, h3 vs hr, hb⟩
  · intro i j c e hc he
    obtain ⟨c0, h1, _⟩ := key i c hc
    obtain ⟨e0, h2, _⟩ := key j e he
    exact M.inj i j c0 e0 h1 h2
theorem mergeL_l {ρ : Nat → Nat} {ws : List Nat} : ∀ (i : Nat) {us vs : List SV} {xs : List Value}, us.length = vs.length → SV.rls ρ us xs → SV.rls ρ (mergeL true ws i us vs) xs
  | i, [], [], [], _, h => by simp [mergeL, SV.rls]
  | i, u :: us, v :: vs, x :: xs, hl, h => by
    simp only [SV.rls] at h
    simp only [mergeL, SV.rls]
    refine ⟨?_, mergeL_l (i + 1) (by simpa using hl) h.2⟩
    cases memN i ws with
    | true => exact mergeV_l h.1
    | false => exact h.1
  | _, [], _, _ :: _, _, h => by simp [SV.rls] at h
  | _, _ :: _, _, [], _, h => by simp [SV.rls] at h
  | _, [], _ :: _, _, h, _ => by simp at h
  | _, _ :: _, [], _, h, _ => by simp at h
theorem mergeL_r {ρ : Nat → Nat} {ws : List Nat} : ∀ (i : Nat) {us vs : List SV} {xs : List Value}, us.length = vs.length → (∀ t, memN (i + t) ws = false → nth us t = nth vs t) → SV.rls ρ vs xs → SV.rls ρ (mergeL false ws i us vs) xs
  | i, [], [], [], _, _, h => by simp [mergeL, SV.rls]
  | i, u :: us, v :: vs, x :: xs, hl, ht, h => by
    simp only [SV.rls] at h
    simp only [mergeL, SV.rls]
    refine ⟨?_, mergeL_r (i + 1) (by simpa using hl) (fun t hm => by have := ht (t + 1) (by rwa [show i + (t + 1) = i + 1 + t by omega]); simpa [nth] using this) h.2⟩
    cases hm : memN i ws with
    | true => exact mergeV_r h.1
    | false => have := ht 0 (by simpa using hm); simp only [nth] at this; rw [this]; exact h.1
  | _, _, [], _ :: _, _, _, h => by simp [SV.rls] at h
  | _, _, _ :: _, [], _, _, h => by simp [SV.rls] at h
  | _, [], _ :: _, _, h, _, _ => by simp at h
  | _, _ :: _, [], _, h, _, _ => by simp at h
theorem mergeL_nth {b : Bool} {ws : List Nat} : ∀ (i t : Nat) {us vs : List SV}, us.length = vs.length → memN (i + t) ws = false → nth (mergeL b ws i us vs) t = nth us t
  | i, t, [], [], _, _ => by simp [mergeL]
  | i, 0, u :: us, v :: vs, _, h => by simp only [mergeL, nth]; simp only [Nat.add_zero] at h; rw [h]; rfl
  | i, t + 1, u :: us, v :: vs, hl, h => by simp only [mergeL, nth]; exact mergeL_nth (i + 1) t (by simpa using hl) (by rwa [show i + 1 + t = i + (t + 1) by omega])
  | _, _, [], _ :: _, h, _ => by simp at h
  | _, _, _ :: _, [], h, _ => by simp at h
theorem mergeL_len {b : Bool} {ws : List Nat} : ∀ (i : Nat) {us vs : List SV}, us.length = vs.length → (mergeL b ws i us vs).length = us.length
  | i, [], [], _ => by simp [mergeL]
  | i, u :: us, v :: vs, hl => by simp [mergeL, mergeL_len (i + 1) (us := us) (vs := vs) (by simpa using hl)]
  | _, [], _ :: _, h => by simp at h
  | _, _ :: _, [], h => by simp at h

theorem exP_kept {ws as : List Nat} (hd : ∀ t ∈ as, memN t ws = false) : ∀ (c : Code) (st r : St), (∀ t ∈ dsts c, t ∈ ws) → (∀ t ∈ adr c, t ∈ as) → exP P G T c st = some r → Kept ws as st r := by
  intro c
  induction c with
  | skip =>
    intro st r _ _ h
    simp only [exP, Option.some.injEq] at h; subst h
    exact .refl _ _ _
  | region id ops draw =>
    intro st r hw ha h
    simp only [exP] at h
    have hws : ∀ o ∈ ops.toList, ∀ t, o.dst = some t → t ∈ ws := fun o ho t ht => hw t (by simp only [dsts, List.mem_filterMap]; exact ⟨o, ho, ht⟩)
    have has : ∀ o ∈ ops.toList, ∀ t, adrO o = some t → t ∈ as := fun o ho t ht => ha t (by simp only [adr, List.mem_filterMap]; exact ⟨o, ho, ht⟩)
    cases draw with
    | true =>
      simp only [cond_true] at h
      obtain ⟨hok, h⟩ := bif_t h
      unfold exD at h
      obtain ⟨_, h⟩ := bif_t h
      have := exDs_kept hd ops.toList _ _ _ r hok hws h
      simp only [news_ok hok, nones, List.append_nil] at this
      exact ⟨this.blks, this.bl, this.saved, this.len, this.tmps⟩
    | false =>
      simp only [cond_false] at h
      obtain ⟨hok, h⟩ := bif_t h
      exact exOps_kept hd ops.toList _ _ r hok hws has h
  | seq x y ihx ihy =>
    intro st r hw ha h
    simp only [exP] at h
    split at h <;> try (simp at h; done)
    rename_i st' hx
    exact (ihx _ _ (fun t ht => hw t (by simp [dsts, ht])) (fun t ht => ha t (by simp [adr, ht])) hx).trans hd (ihy _ _ (fun t ht => hw t (by simp [dsts, ht])) (fun t ht => ha t (by simp [adr, ht])) h)
  | cond c x y ihx ihy =>
    intro st r hw ha h
    simp only [exP] at h
    obtain ⟨hdj, h⟩ := bif_t h
    split at h <;> try (simp at h; done)
    rename_i b hc
    split at h <;> try (simp at h; done)
    rename_i sx hx
    split at h <;> try (simp at h; done)
    rename_i sy hy
    simp only [Option.some.injEq] at h
    subst h
    have k1 := ihx _ _ (fun t ht => hw t (by simp [dsts, ht])) (fun t ht => ha t (by simp [adr, ht])) hx
    have k2 := ihy _ _ (fun t ht => hw t (by simp [dsts, ht])) (fun t ht => ha t (by simp [adr, ht])) hy
    have hlen : sx.tmps.length = sy.tmps.length := k1.len.trans k2.len.symm
    have hbl : sx.blks.length = sy.blks.length := k1.bl.trans k2.bl.symm
    refine ⟨fun i hi => ?_, (mergeB_len 0 hbl).trans k1.bl, rfl, (mergeL_len 0 hlen).trans k1.len, fun t ht => ?_⟩
    · have hi' : memN i (touched st.tmps (adr x ++ adr y)) = false := by
        rw [memN_no, mem_touched] at hi ⊢
        rintro ⟨t, ht, e⟩
        exact hi ⟨t, ha t (by simpa [adr] using ht), e⟩
      simp only
      rw [mergeB_blk 0 i hbl, Nat.zero_add, hi']
      exact k1.blks i hi
    · have ht' : memN t (dsts x ++ dsts y) = false := by
        rw [memN_no] at ht ⊢
        exact fun h => ht (hw t (by simpa [dsts] using h))
      rw [mergeL_nth 0 t hlen (by simpa using ht')]
      exact k1.tmps t ht
  | _ => intro st r _ _ h; simp [exP] at h

theorem exP_ok (hM : P.follows .mixedOrders = true) (hN : NoCount P) (hT : TabOK P G T) : ∀ (c : Code) (st r : St), exP P G T c st = some r → GoodP P G c st r := by
  intro c
  induction c with
  | skip =>
    intro st r h
    simp only [exP, Option.some.injEq] at h; subst h
    exact fun base ρ a sv w Q S hQ => wp_skip (hQ ρ a w S (Below.refl _ _))
  | region id ops draw =>
    intro st r h
    simp only [exP] at h
    cases draw with
    | true =>
      simp only [cond_true] at h
      obtain ⟨hok, h⟩ := bif_t h
      refine fun base ρ a sv w Q S hQ => exD_wp hM hT h base ρ a sv w Q S fun e st' ρ' a' w' ⟨he, hk⟩ S' hb => ?_
      subst he
      simp only [Option.some.injEq] at hk
      subst hk
      exact hQ ρ' a' w' S' hb
    | false =>
      simp only [cond_false] at h
      obtain ⟨hok, h⟩ := bif_t h
      refine fun base ρ a sv w Q S hQ => wp_region_list (exOps_wp hN hT recNone ops.toList _ _ ρ a w S h fun st' ρ' a' w' hk S' hb => ?_)
      simp only [Option.some.injEq] at hk
      subst hk
      exact hQ ρ' a' w' S' hb
  | seq x y ihx ihy =>
    intro st r h
    simp only [exP] at h
    split at h <;> try (simp at h; done)
    rename_i st' hx
    have g1 := ihx _ _ hx
    have g2 := ihy _ _ h
    exact fun base ρ a sv w Q S hQ => wp_seq (g1 base ρ a sv w _ S fun ρ' a' w' S' hb => g2 base ρ' a' sv w' Q S' fun ρ'' a'' w'' S'' hb' => hQ ρ'' a'' w'' S'' (hb.trans hb'))
  | cond c x y ihx ihy =>
    intro st r h
    simp only [exP] at h
    obtain ⟨hdj, h⟩ := bif_t h
    have hd := disj_spec hdj
    split at h <;> try (simp at h; done)
    rename_i b hc
    split at h <;> try (simp at h; done)
    rename_i sx hx
    split at h <;> try (simp at h; done)
    rename_i sy hy
    simp only [Option.some.injEq] at h
    subst h
    have g1 := ihx _ _ hx
    have g2 := ihy _ _ hy
    have k1 := exP_kept hd x _ _ (fun t ht => by simp [ht]) (fun t ht => by simp [ht]) hx
    have k2 := exP_kept hd y _ _ (fun t ht => by simp [ht]) (fun t ht => by simp [ht]) hy
    have hlen : sx.tmps.length = sy.tmps.length := k1.len.trans k2.len.symm
    have hbl : sx.blks.length = sy.blks.length := k1.bl.trans k2.bl.symm
    have hsame : ∀ i, memN i (touched st.tmps (adr x ++ adr y)) = false → blk? sx.blks i = blk? sy.blks i := fun i hi => (k1.blks i hi).trans (k2.blks i hi).symm
    intro base ρ a sv w Q S hQ
    have hr := ev_rl S.tm c
    rw [hc] at hr
    simp only [SV.rl] at hr
    refine wp_cond hr ?_
    cases b with
    | true =>
      refine g1 base ρ a sv w Q S fun ρ' a' w' S' hb => hQ ρ' a' w' ⟨mergeL_l 0 hlen S'.tm, S'.df, ?_, mergeB_M true hbl hsame S'.M⟩ hb
      rw [← k1.saved]; exact S'.svd
    | false =>
      refine g2 base ρ a sv w Q S fun ρ' a' w' S' hb => hQ ρ' a' w' ⟨mergeL_r 0 hlen (fun t ht => ?_) S'.tm, S'.df, ?_, mergeB_M false hbl hsame S'.M⟩ hb
      · rw [k1.tmps t (by simpa using ht), k2.tmps t (by simpa using ht)]
      · rw [← k2.saved]; exact S'.svd
  | _ => intro st r h; simp [exP] at h
end
end Go.Wk
