/- The walk by evaluation, part D7: a cell of a short list of whole numbers, read at any place. Conditions: none. -/
import Derived.Test.YtonpbbhlmapbdaaGreatDoorWkG
import Derived.Laws.BytesString
set_option autoImplicit false
set_option linter.unusedVariables false
set_option linter.unusedSimpArgs false
set_option linter.unnecessarySimpa false
namespace Go.Wk
noncomputable section
open Go Go.RowKit
def intsS (k : IntKind) : List SV → Option (List Int)
  | [] => some []
  | .val (.int k' n) :: r => bif decide (k' = k) then (match intsS k r with
    | some l => some (n :: l)
    | none => none) else none
  | _ => none
theorem intsS_rls {ρ : Nat → Nat} {k : IntKind} : ∀ {cs : List SV} {l : List Int} {xs : List Value}, intsS k cs = some l → SV.rls ρ cs xs → xs = l.map (.int k)
  | [], l, [], h, _ => by simp only [intsS, Option.some.injEq] at h; subst h; rfl
  | .val (.int k' n) :: r, l, x :: xs, h, hr => by
    simp only [SV.rls, SV.rl] at hr
    obtain ⟨rfl, hr⟩ := hr
    simp only [intsS] at h
    by_cases e : k' = k
    · simp only [e, decide_true, cond_true] at h
      split at h
      · rename_i l' hl
        simp only [Option.some.injEq] at h
        subst h; subst e
        rw [intsS_rls hl hr]; rfl
      · simp at h
    · simp [e] at h
  | [], _, _ :: _, _, h => by simp [SV.rls] at h
  | _ :: _, _, [], _, h => by simp [SV.rls] at h
  | .val (.bool _) :: _, _, _, h, _ | .val (.float _ _) :: _, _, _, h, _ | .val (.complex _ _ _) :: _, _, _, h, _ | .val (.string _) :: _, _, _, h, _ | .val (.pointer _) :: _, _, _, h, _ | .val (.slice _ _ _) :: _, _, _, h, _
  | .val (.agg _) :: _, _, _, h, _ | .val (.tuple _) :: _, _, _, h, _ | .val (.func _ _ _) :: _, _, _, h, _ | .val (.iface _ _) :: _, _, _, h, _ | .val .nilIface :: _, _, _, h, _ | .val .nilFunc :: _, _, _, h, _
  | .glob _ _ :: _, _, _, h, _ | .ptr _ _ :: _, _, _, h, _ | .slc _ _ _ :: _, _, _, h, _ | .fn _ _ _ :: _, _, _, h, _ | .agg _ :: _, _, _, h, _ | .tup _ :: _, _, _, h, _ | .ifc _ _ :: _, _, _, h, _ | .unk :: _, _, _, h, _ => by simp [intsS] at h
def kindS : List SV → Option (IntKind × Nat)
  | .val (.int k _) :: r => some (k, r.length)
  | _ => none
/-- a text of one byte -/
def byte1 (n : Int) : ByteArray := ByteArray.empty.push (UInt8.ofNat n.toNat)
def convB (P : Program) (bl : List (Option LB)) (s d : TypeId) (x : SV) : Option (Bool × SV) := match x with
  | .slc i o n => bif Nat.beq n 1 then (match P.underlying s with
    | some (.slice el) => match P.underlying el with
      | some (.int .u8) => match P.underlying d with
        | some .string => match blk? bl i with
          | some b => match nth? b.cells o with
            | some (.val (.int .u8 n)) => some (true, .val (.string (byte1 n)))
            | _ => none
          | none => none
        | _ => none
      | _ => none
    | _ => none) else none
  | _ => none
def opA (P : Program) (bl : List (Option LB)) (e : Operand → SV) (o : Oper) : Option (Bool × SV) := match o.op with
  | .load t x => match e x with
    | .ptr i p => match agK P t with
      | some false => match blk? bl i with
        | some b => match kindS b.cells with
          | some (k, m) => bif Nat.blt 4 m then (match intsS k b.cells with
            | some l => some (Nat.blt p l.length, .val (.int k (l.getD p 0)))
            | none => none) else none
          | none => none
        | none => none
      | _ => none
    | _ => none
  | .convert s d x => convB P bl s d (e x)
  | .binOp op t x y _ => match e x with
    | .fn (.func _) _ _ => match e y with
      | .val .nilFunc => match P.underlying t with
        | some (.func _ _ _) => match op with
          | .eql => some (true, .val (.bool false))
          | .neq => some (true, .val (.bool true))
          | _ => none
        | _ => none
      | _ => none
    | _ => none
  | _ => none
section
variable {P : Program} {G : Glob} {T : Tab} {base : Nat} {R : Type}
theorem opA_wp {ρ : Nat → Nat} {st : St} {a : Act} {sv : List (List Value)} {w : World} {o : Oper} {v : SV} (S : SRel G base ρ st a sv w)
    (h : opA P st.blks (ev st.tmps) o = some (true, v)) {K : Act → World → Prop} {Q : Exit → Act → World → Prop}
    (hK : ∀ x, SV.rl ρ v x → K (a.put o.dst x) w) : o.wp P a w K Q := by
  obtain ⟨dst, op, type, pos, after, guard⟩ := o
  cases op <;> simp only [opA] at h <;> try (simp at h; done)
  case load t x =>
    have hx := ev_rl S.tm x
    split at h <;> try (simp at h; done)
    rename_i i p he
    rw [he] at hx
    split at h <;> try (simp at h; done)
    rename_i ha
    split at h <;> try (simp at h; done)
    rename_i b hb
    split at h <;> try (simp at h; done)
    rename_i k m hk
    obtain ⟨_, h'⟩ := bif_t0 h
    clear h
    split at h' <;> try (simp at h'; done)
    rename_i l hl
    simp only [Option.some.injEq, Prod.mk.injEq] at h'
    obtain ⟨hp, rfl⟩ := h'
    have hlt : p < l.length := by simpa [Nat.blt_eq] using hp
    obtain ⟨xs, hh, hr, _⟩ := S.M.bk i b hb
    have hxs := intsS_rls hl hr
    simp only [SV.rl] at hx
    refine wp_of_run (x := .int k (l.getD p 0)) ?_ (hK _ (by simp [SV.rl]))
    have hc : w.cell? ⟨ρ i, p, none⟩ = some (.int k (l.getD p 0)) := by
      have hs : xs[p]? = some (.int k (l.getD p 0)) := by rw [hxs]; simp [hlt]
      simp [World.cell?, hh, hs]
    simp [execOp, Instr.loadAt, hx, Instr.sureAddr, loadVar, run_isAgg ha, hc]
  case convert sr d x =>
    have hx := ev_rl S.tm x
    unfold convB at h
    split at h <;> try (simp at h; done)
    rename_i i p n he
    rw [he] at hx
    obtain ⟨hn, h⟩ := bif_t0 h
    have hn := Nat.eq_of_beq_eq_true hn
    subst hn
    split at h <;> try (simp at h; done)
    rename_i el hs
    split at h <;> try (simp at h; done)
    rename_i hel
    split at h <;> try (simp at h; done)
    rename_i hd
    split at h <;> try (simp at h; done)
    rename_i b hb
    split at h <;> try (simp at h; done)
    rename_i m hm
    simp only [show Nat.beq 1 1 = true from rfl, cond_true, Option.some.injEq, Prod.mk.injEq, true_and] at h
    subst h
    simp only [SV.rl] at hx
    obtain ⟨ad, c, hx, hc, ha⟩ := hx
    have ha : ad = ⟨ρ i, p, none⟩ := by rcases ha with ha | ha; · exact absurd ha (by decide)
                                        · exact ha
    subst ha
    obtain ⟨xs, hh, hr, _⟩ := S.M.bk i b hb
    obtain ⟨y, hy, hyr⟩ := rls_nth? hr hm
    simp only [SV.rl] at hyr
    subst hyr
    refine wp_of_run (x := .string (byte1 m)) ?_ (hK _ (by simp [SV.rl]))
    have hl := run_loadCells_list (P := P) w ⟨ρ i, p, none⟩ [.int .u8 m] (by
      intro j v hj
      cases j with
      | zero =>
        simp only [List.getElem?_cons_zero, Option.some.injEq] at hj
        subst hj
        rw [add_eq]
        simp [World.cell?, hh, hy]
      | succ j => simp at hj)
    have hb2 := run_bytesToString (P := P) w ⟨ρ i, p, none⟩ 1 c [m] (by simpa using hl)
    have h3 := run_convert_bytes_string (P := P) w sr d el (some ⟨ρ i, p, none⟩) 1 c hs hel hd
    simp only [execOp, hx, Sem.run_bind, h3, hb2, Result.andThen_ok, Sem.run_pure, List.foldl_cons, List.foldl_nil, byte1]
  case binOp op t x y yt =>
    have hx := ev_rl S.tm x
    have hy := ev_rl S.tm y
    split at h <;> try (simp at h; done)
    rename_i g p c he
    split at h <;> try (simp at h; done)
    rename_i hn
    rw [he] at hx
    rw [hn] at hy
    simp only [SV.rl] at hx hy
    obtain ⟨ps, cs, hx, _, _⟩ := hx
    split at h <;> try (simp at h; done)
    rename_i hu
    have heq : eqE P 12 t (.func (.func g) ps.toArray cs.toArray) .nilFunc = some false := by simp only [eqE, hu]
    split at h <;> try (simp at h; done)
    · simp only [Option.some.injEq, Prod.mk.injEq, true_and] at h
      subst h
      have hb : binE P .eql t x y (.func (.func g) ps.toArray cs.toArray) .nilFunc = some (true, .bool false) := by simp [binE, guardOk, heq]
      have h1 := binE_run hb w
      refine wp_of_run (x := .bool false) ?_ (hK _ (by simp [SV.rl]))
      simp only [execOp, hx, hy, Sem.run_bind]
      simp only [Sem.run_bind] at h1
      rw [h1]; rfl
    · simp only [Option.some.injEq, Prod.mk.injEq, true_and] at h
      subst h
      have hb : binE P .neq t x y (.func (.func g) ps.toArray cs.toArray) .nilFunc = some (true, .bool true) := by simp [binE, guardOk, heq]
      have h1 := binE_run hb w
      refine wp_of_run (x := .bool true) ?_ (hK _ (by simp [SV.rl]))
      simp only [execOp, hx, hy, Sem.run_bind]
      simp only [Sem.run_bind] at h1
      rw [h1]; rfl
def stepRunA (P : Program) (G : Glob) (T : Tab) (rec : Code → St → (Xt → St → Option R) → Option R) (o : Oper) (n : Nat) (st : St) (kk : St → Option R) : Option R :=
  match opA P st.blks (ev st.tmps) o with
  | some (ok, v) => bif ok then kk { st with tmps := putD st.tmps o.dst v } else none
  | none => stepRun P G T rec o n st kk
def stepA (P : Program) (G : Glob) (T : Tab) (rec : Code → St → (Xt → St → Option R) → Option R) (ops : Array Oper) (o : Oper) (n : Nat) (st : St) (kk : St → Option R) : Option R :=
  match gd ops st.tmps o with
  | .yes => stepRunA P G T rec o n st kk
  | _ => stepE P G T rec ops o n st kk
def exOpsA (P : Program) (G : Glob) (T : Tab) (rec : Code → St → (Xt → St → Option R) → Option R) (ops : Array Oper) : List Oper → Nat → St → (St → Option R) → Option R
  | [], _, st, k => k st
  | o :: os, n, st, k => stepA P G T rec ops o n st fun st' => exOpsA P G T rec ops os (bif isNew o then n + 1 else n) st' k
theorem exOpsA_wp {rec : Code → St → (Xt → St → Option R) → Option R} {S0 : List (Nat × LSum)} (hN : NoCount P) (hT : TabOK P G T) (hr : RecOK P G S0 rec) {ops : Array Oper} {k : St → Option R} {r : R} {sv : List (List Value)} {Q : Exit → Act → World → Prop} :
    ∀ (os : List Oper) (n : Nat) (st : St) (ρ : Nat → Nat) (a : Act) (w : World), SRel G base ρ st a sv w → exOpsA P G T rec ops os n st k = some r →
    (∀ st' ρ' a' w', k st' = some r → SRel G base ρ' st' a' sv w' → Below base w w' → Q .normal a' w') → wpList P ops Q os a w
  | [], n, st, ρ, a, w, S, h, hQ => hQ _ ρ _ _ h S (Below.refl _ _)
  | o :: os, n, st, ρ, a, w, S, h, hQ => by
    simp only [exOpsA] at h
    have next : ∀ st' ρ' a' w', exOpsA P G T rec ops os (bif isNew o then n + 1 else n) st' k = some r → SRel G base ρ' st' a' sv w' → Below base w w' → wpList P ops Q os a' w' :=
      fun st' ρ' a' w' hk S' hb => exOpsA_wp hN hT hr os _ st' ρ' a' w' S' hk fun st'' ρ'' a'' w'' h1 h2 h3 => hQ st'' ρ'' a'' w'' h1 h2 (hb.trans h3)
    simp only [wpList]
    unfold stepA at h
    split at h
    · rename_i hg
      rw [if_pos (gd_yes (ρ := ρ) hg)]
      unfold stepRunA at h
      split at h
      · rename_i ok v hv
        obtain ⟨hok, h⟩ := bif_t0 h
        subst hok
        exact .inl (opA_wp S hv fun x hx => next _ ρ _ _ h (S.val o.dst hx (Below.refl _ _)) (Below.refl _ _))
      · exact .inl (stepRun_wp hN hT hr S h next)
    · rename_i hng
      unfold stepE at h
      split at h
      · rename_i hg; exact (hng hg).elim
      · rename_i hg
        have := gd_no S.tm hg
        rw [this]
        simp only [Bool.false_eq_true, if_false]
        exact next _ ρ _ _ h (skipE_rel S o) (Below.refl _ _)
      · rename_i t b want hg
        obtain ⟨hv, hw⟩ := gd_test S.tm hg
        rw [hw]
        cases b <;> cases want <;> simp only [cond_true, cond_false, lit_same st t _ hv] at h <;> simp
        · exact .inl (stepRun_wp hN hT hr S h next)
        · exact next _ ρ _ _ h (skipE_rel S o) (Below.refl _ _)
        · exact next _ ρ _ _ h (skipE_rel S o) (Below.refl _ _)
        · exact .inl (stepRun_wp hN hT hr S h next)
      · simp at h
end
end
end Go.Wk
