/- The walk by evaluation, part D6: regions whose operations hang on tests are reckoned without parting. Conditions: none. -/
import Derived.Test.YtonpbbhlmapbdaaGreatDoorWkD4
set_option autoImplicit false
set_option linter.unusedVariables false
set_option linter.unusedSimpArgs false
set_option linter.unnecessarySimpa false
namespace Go.Wk
noncomputable section
open Go Go.RowKit
/-- which tests must have come out how, that a temporary is set -/
abbrev GL := List (Nat × List (Nat × Bool))
def lookGL : GL → Nat → List (Nat × Bool)
  | [], _ => []
  | (k, g) :: r, n => bif Nat.beq k n then g else lookGL r n
def isKey (n : Nat) : GL → Bool
  | [] => false
  | (k, _) :: r => Nat.beq k n || isKey n r
def memT (n : Nat) : List (Nat × Bool) → Bool
  | [] => false
  | (t, _) :: r => Nat.beq t n || memT n r
def memTs (n : Nat) : GL → Bool
  | [] => false
  | (_, g) :: r => memT n g || memTs n r
def hold1 (tm : List SV) (t : Nat) (w : Bool) : Bool := match nth tm t with
  | .val (.bool b) => bif w then b else !b
  | _ => false
def holds (tm : List SV) : List (Nat × Bool) → Bool
  | [] => true
  | (t, w) :: r => hold1 tm t w && holds tm r
def memG (t : Nat) (w : Bool) : List (Nat × Bool) → Bool
  | [] => false
  | (s, v) :: r => (Nat.beq s t && (bif w then v else !v)) || memG t w r
def subG : List (Nat × Bool) → List (Nat × Bool) → Bool
  | [], _ => true
  | (t, w) :: r, g => memG t w g && subG r g
def oprOk (gl : GL) (g : List (Nat × Bool)) : List Operand → Bool
  | [] => true
  | .tmp t :: r => subG (lookGL gl t) g && oprOk gl g r
  | _ :: r => oprOk gl g r
def underC (c : Operand) (w : Bool) (g : List (Nat × Bool)) : List (Nat × Bool) := match c with
  | .tmp t => (t, w) :: g
  | _ => g
def pickG (c x y : SV) : Option (Bool × SV) := match c with
  | .val (.bool b) => match x with
    | .val (.bool p) => match y with
      | .val (.bool q) => some (true, .val (.bool (bif b then p else q)))
      | _ => none
    | .val (.int k p) => match y with
      | .val (.int k' q) => bif decide (k = k') then some (true, .val (.int k (bif b then p else q))) else none
      | _ => none
    | _ => none
  | _ => none
def okOpG (o : Oper) : Bool := match o.op with
  | .move _ => true
  | .assign _ => true
  | .load _ _ => true
  | .build _ _ => true
  | .unOp _ _ _ => true
  | .convert _ _ _ => true
  | .fieldAddr _ _ _ => true
  | .field _ _ _ => true
  | .extract _ _ => true
  | .call _ => true
  | .pick _ _ _ => true
  | .binOp _ _ _ _ _ => true
  | .index _ _ _ => true
  | .indexAddr _ _ _ => true
  | _ => false
def okOpsG : List Oper → Bool
  | [] => true
  | o :: r => okOpG o && okOpsG r
def hasG : List Oper → Bool
  | [] => false
  | o :: r => (match o.guard with | some _ => true | none => false) || hasG r
section
variable (P : Program) (G : Glob) (T : Tab)
def gOf (ops : Array Oper) (tm : List SV) (gl : GL) (o : Oper) : Option (List (Nat × Bool)) := match o.guard with
  | none => some []
  | some (j, want) => match lnth? ops.toList j with
    | none => none
    | some oj => match oj.dst with
      | none => none
      | some t => match nth tm t with
        | .val (.bool _) => some ((t, want) :: lookGL gl t)
        | _ => none
def valG (bl : List (Option LB)) (tm : List SV) (gl : GL) (g : List (Nat × Bool)) (o : Oper) : Option (Bool × SV) := match o.op with
  | .pick c x y => bif oprOk gl g [c] && (oprOk gl (underC c true g) [x] && oprOk gl (underC c false g) [y]) then pickG (ev tm c) (ev tm x) (ev tm y) else none
  | _ => bif oprOk gl g o.op.operands.toList then opV P G T bl (ev tm) o else none
def freshD (n0 : Nat) (tm : List SV) (gl : GL) (d : Option Tmp) : Bool := match d with
  | none => true
  | some d => !(isKey d gl) && (!(memTs d gl) && SV.und n0 (nth tm d))
def addG (gl : GL) (d : Option Tmp) (g : List (Nat × Bool)) : GL := match d with
  | none => gl
  | some d => match g with
    | [] => gl
    | x :: r => (d, x :: r) :: gl
def notIn (d : Option Tmp) (g : List (Nat × Bool)) : Bool := match d with
  | none => true
  | some d => !(memT d g)
def exGs (ops : Array Oper) (bl : List (Option LB)) : List Oper → List SV → GL → Option (Bool × List SV × GL)
  | [], tm, gl => some (true, tm, gl)
  | o :: os, tm, gl => match gOf ops tm gl o with
    | none => none
    | some g => bif freshD bl.length tm gl o.dst && notIn o.dst g then (match valG P G T bl tm gl g o with
      | none => none
      | some (ok, v) => forceL (putD tm o.dst v) fun tm' => match exGs ops bl os tm' (addG gl o.dst g) with
        | none => none
        | some (ok', r) => some ((ok || !(holds tm g)) && ok', r)) else none
def stripL (gl : GL) : Nat → List SV → List SV
  | _, [] => []
  | i, s :: r => (bif isKey i gl then .unk else s) :: stripL gl (i + 1) r
def exG (ops : Array Oper) (draw : Bool) (st : St) : Option (Bool × St) :=
  bif hasG ops.toList && (okOpsG ops.toList && (!draw || swapOK ops)) then (match exGs P G T ops st.blks ops.toList st.tmps [] with
    | some (ok, tm, gl) => some (ok, { tmps := stripL gl 0 tm, blks := st.blks, saved := st.saved })
    | none => none) else none
end
/-! soundness: against the evaluator that parts -/
structure RelG (tm : List SV) (gl : GL) (xt : List SV) : Prop where
  len : xt.length = tm.length
  at' : ∀ i, nth xt i = bif holds tm (lookGL gl i) then nth tm i else .val undef
theorem RelG.start (tm : List SV) : RelG tm [] tm := ⟨rfl, fun i => by simp [lookGL, holds]⟩
theorem memG_holds {tm : List SV} {t : Nat} {w : Bool} : ∀ {g : List (Nat × Bool)}, memG t w g = true → holds tm g = true → hold1 tm t w = true
  | [], h, _ => by simp [memG] at h
  | (s, v) :: r, h, hh => by
    simp only [memG, Bool.or_eq_true, Bool.and_eq_true] at h
    simp only [holds, Bool.and_eq_true] at hh
    rcases h with ⟨h1, h2⟩ | h
    · have := Nat.eq_of_beq_eq_true h1
      subst this
      have : v = w := by cases w <;> cases v <;> simp_all
      subst this
      exact hh.1
    · exact memG_holds h hh.2
theorem subG_holds {tm : List SV} : ∀ {g' g : List (Nat × Bool)}, subG g' g = true → holds tm g = true → holds tm g' = true
  | [], _, _, _ => rfl
  | (t, w) :: r, g, h, hh => by
    simp only [subG, Bool.and_eq_true] at h
    simp only [holds, Bool.and_eq_true]
    exact ⟨memG_holds h.1 hh, subG_holds h.2 hh⟩
theorem oprOk_ev {tm xt : List SV} {gl : GL} {g : List (Nat × Bool)} (R : RelG tm gl xt) (hh : holds tm g = true) : ∀ {l : List Operand}, oprOk gl g l = true → ∀ x ∈ l, ev xt x = ev tm x
  | [], _, x, hx => by simp at hx
  | o :: r, h, x, hx => by
    have hr : oprOk gl g r = true := by cases o <;> simp only [oprOk, Bool.and_eq_true] at h <;> first | exact h.2 | exact h
    simp only [List.mem_cons] at hx
    rcases hx with rfl | hx
    · cases x with
      | tmp t =>
        simp only [oprOk, Bool.and_eq_true] at h
        have := R.at' t
        rw [subG_holds h.1 hh] at this
        exact this
      | _ => rfl
    · exact oprOk_ev R hh hr x hx
theorem nth_putD_same {tm : List SV} {d : Nat} {v : SV} (h : d < tm.length) : nth (putD tm (some d) v) d = v := by
  induction tm generalizing d with
  | nil => simp at h
  | cons a r ih => cases d with
    | zero => rfl
    | succ d => exact ih (by simpa using h)
theorem nth_out : ∀ {l : List SV} {i : Nat}, l.length ≤ i → nth l i = .val undef
  | [], _, _ => by simp [nth]
  | _ :: _, 0, h => by simp at h
  | _ :: r, i + 1, h => by simp only [nth]; exact nth_out (by simpa using h)
theorem putD_len {tm : List SV} {d : Option Tmp} {v : SV} : (putD tm d v).length = tm.length := by
  cases d with
  | none => rfl
  | some d =>
    show (setN tm d v).length = tm.length
    induction tm generalizing d with
    | nil => simp [setN]
    | cons a r ih => cases d with
      | zero => rfl
      | succ d => simp [setN, ih]
theorem hold1_put {tm : List SV} {d : Nat} {v : SV} {t : Nat} {w : Bool} (h : t ≠ d) : hold1 (putD tm (some d) v) t w = hold1 tm t w := by
  unfold hold1; rw [nth_putD (fun k hk => by cases hk; exact Ne.symm h)]
theorem holds_put {tm : List SV} {d : Nat} {v : SV} : ∀ {g : List (Nat × Bool)}, memT d g = false → holds (putD tm (some d) v) g = holds tm g
  | [], _ => rfl
  | (t, w) :: r, h => by
    simp only [memT, Bool.or_eq_false_iff] at h
    have ht : t ≠ d := fun e => by subst e; simp at h
    simp only [holds, hold1_put ht, holds_put h.2]
theorem lookGL_memT {d : Nat} : ∀ {gl : GL} (i : Nat), memTs d gl = false → memT d (lookGL gl i) = false
  | [], _, _ => rfl
  | (k, g) :: r, i, h => by
    simp only [memTs, Bool.or_eq_false_iff] at h
    simp only [lookGL]
    cases Nat.beq k i with
    | true => exact h.1
    | false => exact lookGL_memT i h.2
theorem lookGL_noKey {d : Nat} : ∀ {gl : GL}, isKey d gl = false → lookGL gl d = []
  | [], _ => rfl
  | (k, g) :: r, h => by
    simp only [isKey, Bool.or_eq_false_iff] at h
    simp only [lookGL, h.1, cond_false]
    exact lookGL_noKey h.2
/-- one more temporary is set -/
theorem RelG.put {tm xt : List SV} {gl : GL} {d : Option Tmp} {g : List (Nat × Bool)} {v u : SV} {n0 : Nat} (R : RelG tm gl xt) (hf : freshD n0 tm gl d = true) (hn : notIn d g = true)
    (hu : u = bif holds tm g then v else .val undef) : RelG (putD tm d v) (addG gl d g) (putD xt d u) := by
  cases d with
  | none => exact R
  | some d =>
    simp only [freshD, Bool.and_eq_true, Bool.not_eq_true'] at hf
    obtain ⟨h1, h2, h3⟩ := hf
    simp only [notIn, Bool.not_eq_true'] at hn
    refine ⟨by rw [putD_len, putD_len]; exact R.len, fun i => ?_⟩
    by_cases hi : i = d
    · subst hi
      have hl : lookGL (addG gl (some i) g) i = g := by
        unfold addG
        cases g with
        | nil => exact lookGL_noKey h1
        | cons x r => simp [lookGL]
      rw [hl, holds_put hn]
      rcases Nat.lt_or_ge i tm.length with hlt | hge
      · rw [nth_putD_same (by rw [R.len]; exact hlt), nth_putD_same hlt, hu]
      · rw [nth_out (by rw [putD_len, R.len]; exact hge), nth_out (by rw [putD_len]; exact hge)]
        cases holds tm g <;> rfl
    · have hl : lookGL (addG gl (some d) g) i = lookGL gl i := by
        unfold addG
        cases g with
        | nil => rfl
        | cons x r =>
          have : Nat.beq d i = false := by
            cases hb : Nat.beq d i with
            | false => rfl
            | true => exact absurd (Nat.eq_of_beq_eq_true hb).symm hi
          simp [lookGL, this]
      rw [hl, holds_put (lookGL_memT i h2), nth_putD (fun k hk => by cases hk; exact Ne.symm hi), nth_putD (fun k hk => by cases hk; exact Ne.symm hi)]
      exact R.at' i
section
variable {P : Program} {G : Glob} {T : Tab} {ops : Array Oper} {base : Nat}
theorem opV_congr2 {bl : List (Option LB)} {e e' : Operand → SV} (o : Oper) (h : ∀ x ∈ o.op.operands, e x = e' x) : opV P G T bl e o = opV P G T bl e' o := by
  by_cases hl : isLoad o = true
  · obtain ⟨dst, op, type, pos, after, guard⟩ := o
    cases op <;> simp [isLoad] at hl
    rename_i t x
    have hx : e x = e' x := h x (by simp [Op.operands])
    simp only [opV, hx]
  · exact opV_congr o h (by simpa using hl)
theorem opV_noInline {bl : List (Option LB)} {e : Operand → SV} {o : Oper} {r : Bool × SV} (h : opV P G T bl e o = some r) : inlineOf T e o = none := by
  obtain ⟨dst, op, type, pos, after, guard⟩ := o
  cases op <;> simp only [inlineOf]
  rename_i c
  simp only [opV] at h
  unfold callV at h
  split
  · rename_i g as hc
    cases hT : T g with
    | some F => rfl
    | none =>
      exfalso
      split at h
      · rename_i b hb; unfold calleeOf at hc; rw [hb] at hc; simp at hc
      · rename_i hb; unfold calleeOf at hc; rw [hb] at hc; simp at hc
      · rw [hc] at h; simp only [hT] at h; simp at h
  · rfl
/-- what the parting evaluator does at an operation -/
def Does (P : Program) (G : Glob) (T : Tab) (ops : Array Oper) (bl : List (Option LB)) (o : Oper) (xt : List SV) (u : SV) : Prop :=
  (gd ops xt o = .yes ∧ opV P G T bl (ev xt) o = some (true, u)) ∨ (∃ t w, gd ops xt o = .test t w w ∧ opV P G T bl (ev xt) o = some (true, u)) ∨
  (gd ops xt o = .no ∧ u = .val undef) ∨ (∃ t b w, gd ops xt o = .test t b w ∧ b ≠ w ∧ u = .val undef)
theorem pickE_true {x y : SV} : ∃ u, pickE (.val (.bool true)) x y = some u ∧ u = (bif true then x else y) := by
  unfold pickE; first | exact ⟨_, rfl, rfl⟩ | (simp only; (repeat' split) <;> exact ⟨_, rfl, rfl⟩)
theorem pickE_false {x y : SV} : ∃ u, pickE (.val (.bool false)) x y = some u ∧ u = (bif false then x else y) := by
  unfold pickE; first | exact ⟨_, rfl, rfl⟩ | (simp only; (repeat' split) <;> exact ⟨_, rfl, rfl⟩)
theorem pickG_pickE {b : Bool} {x y v x' y' : SV} {ok : Bool} (h : pickG (.val (.bool b)) x y = some (ok, v)) (hx : b = true → x' = x) (hy : b = false → y' = y) : ok = true ∧ ∃ u, pickE (.val (.bool b)) x' y' = some u ∧ u = v := by
  have key : ok = true ∧ v = (bif b then x else y) := by
    unfold pickG at h
    simp only at h
    cases x <;> try (simp at h; done)
    rename_i xv
    cases xv <;> try (simp at h; done)
    · cases y <;> try (simp at h; done)
      rename_i yv
      cases yv <;> try (simp at h; done)
      simp only [Option.some.injEq, Prod.mk.injEq] at h
      exact ⟨h.1.symm, by rw [← h.2]; cases b <;> rfl⟩
    · cases y <;> try (simp at h; done)
      rename_i yv
      cases yv <;> try (simp at h; done)
      have h2 := (bif_t h).2
      have hk := of_decide_eq_true (bif_t h).1
      subst hk
      simp only [Option.some.injEq, Prod.mk.injEq] at h2
      exact ⟨h2.1.symm, by rw [← h2.2]; cases b <;> rfl⟩
  refine ⟨key.1, ?_⟩
  rw [key.2]
  cases b with
  | true => rw [← hx rfl]; exact pickE_true
  | false => rw [← hy rfl]; exact pickE_false
theorem valG_opV {bl : List (Option LB)} {tm xt : List SV} {gl : GL} {g : List (Nat × Bool)} {o : Oper} {ok : Bool} {v : SV} (R : RelG tm gl xt) (hh : holds tm g = true) (h : valG P G T bl tm gl g o = some (ok, v)) : opV P G T bl (ev xt) o = some (ok, v) := by
  unfold valG at h
  split at h
  · rename_i c x y hop
    obtain ⟨hc, h⟩ := bif_t h
    simp only [Bool.and_eq_true] at hc
    obtain ⟨h1, h2, h3⟩ := hc
    obtain ⟨dst, op, type, pos, after, guard⟩ := o
    simp only at hop
    subst hop
    simp only [opV]
    have ec : ev xt c = ev tm c := oprOk_ev R hh h1 c (by simp)
    rw [ec]
    cases hb : ev tm c with
    | val w =>
      cases w with
      | bool b =>
        rw [hb] at h
        have key : ∀ w, b = w → holds tm (underC c w g) = true := by
          intro w hw
          subst hw
          cases c with
          | tmp t =>
            simp only [underC, holds, Bool.and_eq_true]
            refine ⟨?_, hh⟩
            unfold hold1
            simp only [ev] at hb
            rw [hb]; cases b <;> rfl
          | _ => exact hh
        obtain ⟨e1, u, e2, e3⟩ := pickG_pickE (x' := ev xt x) (y' := ev xt y) h (fun hw => oprOk_ev R (key true hw) h2 x (by simp)) (fun hw => oprOk_ev R (key false hw) h3 y (by simp))
        rw [e2, e1, e3]
      | _ => rw [hb] at h; simp [pickG] at h
    | _ => rw [hb] at h; simp [pickG] at h
  · obtain ⟨h1, h⟩ := bif_t h
    rw [← h]
    exact opV_congr2 o (fun x hx => oprOk_ev R hh h1 x (by simpa using hx))
theorem exG1_does {bl : List (Option LB)} {tm xt : List SV} {gl : GL} {g : List (Nat × Bool)} {o : Oper} {ok : Bool} {v : SV} (R : RelG tm gl xt) (hg : gOf ops tm gl o = some g) (hv : valG P G T bl tm gl g o = some (ok, v)) (hok : (ok || !(holds tm g)) = true) :
    Does P G T ops bl o xt (bif holds tm g then v else .val undef) := by
  have run : holds tm g = true → opV P G T bl (ev xt) o = some (true, v) := by
    intro hh
    have := valG_opV R hh hv
    rw [hh] at hok
    simp only [Bool.not_true, Bool.or_false] at hok
    rw [this, hok]
  unfold gOf at hg
  split at hg
  · rename_i hgu
    simp only [Option.some.injEq] at hg
    subst hg
    refine .inl ⟨by unfold gd; rw [hgu], ?_⟩
    simp only [holds, cond_true]
    exact run rfl
  · rename_i j want hgu
    split at hg <;> try (simp at hg; done)
    rename_i oj hj
    split at hg <;> try (simp at hg; done)
    rename_i t ht
    split at hg <;> try (simp at hg; done)
    rename_i b hb
    simp only [Option.some.injEq] at hg
    subst hg
    have hx := R.at' t
    have h1 : hold1 tm t want = (bif want then b else !b) := by unfold hold1; rw [hb]
    cases hl : holds tm (lookGL gl t) with
    | false =>
      rw [hl] at hx
      simp only [cond_false] at hx
      refine .inr (.inr (.inl ⟨?_, ?_⟩))
      · unfold gd; rw [hgu]; simp only [hj, ht, hx]; rfl
      · simp only [holds, hl, Bool.and_false, cond_false]
    | true =>
      rw [hl, hb] at hx
      simp only [cond_true] at hx
      have hgd : gd ops xt o = .test t b want := by unfold gd; rw [hgu]; simp only [hj, ht, hx]
      by_cases hbw : b = want
      · subst hbw
        have hh : holds tm ((t, b) :: lookGL gl t) = true := by simp only [holds, h1, hl, Bool.and_true]; cases b <;> rfl
        rw [hh]
        exact .inr (.inl ⟨t, b, hgd, run hh⟩)
      · have hh : holds tm ((t, want) :: lookGL gl t) = false := by simp only [holds, h1, hl, Bool.and_true]; cases b <;> cases want <;> simp_all
        rw [hh]
        exact .inr (.inr (.inr ⟨t, b, want, hgd, hbw, rfl⟩))
theorem okOpG_new {o : Oper} (h : okOpG o = true) : isNew o = false := by
  obtain ⟨dst, op, type, pos, after, guard⟩ := o
  unfold okOpG at h
  cases op <;> simp_all [isNew]
theorem und_xt {n0 : Nat} {tm xt : List SV} {gl : GL} {d : Option Tmp} (R : RelG tm gl xt) (hf : freshD n0 tm gl d = true) : oldOk n0 xt d = true := by
  cases d with
  | none => rfl
  | some d =>
    simp only [freshD, Bool.and_eq_true] at hf
    simp only [oldOk]
    rw [R.at' d]
    cases holds tm (lookGL gl d) with
    | true => exact hf.2.2
    | false => rfl
theorem exGs_cons {bl : List (Option LB)} {o : Oper} {os : List Oper} {tm tm' : List SV} {gl gl' : GL} {ok : Bool} (h : exGs P G T ops bl (o :: os) tm gl = some (ok, tm', gl')) (hok : ok = true) :
    ∃ g v ok1, gOf ops tm gl o = some g ∧ freshD bl.length tm gl o.dst = true ∧ notIn o.dst g = true ∧ valG P G T bl tm gl g o = some (ok1, v) ∧ (ok1 || !(holds tm g)) = true ∧ exGs P G T ops bl os (putD tm o.dst v) (addG gl o.dst g) = some (true, tm', gl') := by
  simp only [exGs, forceL_eq] at h
  split at h <;> try (simp at h; done)
  rename_i g hg
  obtain ⟨hc, h⟩ := bif_t h
  simp only [Bool.and_eq_true] at hc
  split at h <;> try (simp at h; done)
  rename_i ok1 v hv
  split at h <;> try (simp at h; done)
  rename_i ok2 r hr
  simp only [Option.some.injEq, Prod.mk.injEq] at h
  obtain ⟨h1, h2⟩ := h
  rw [← h1] at hok
  simp only [Bool.and_eq_true] at hok
  refine ⟨g, v, ok1, hg, hc.1, hc.2, hv, hok.1, ?_⟩
  rw [hr, hok.2, h2]
theorem exGs_D {R : Type} {bl : List (Option LB)} {sv : List (List SV)} {kk : DX → Option R} : ∀ (os : List Oper) (i n : Nat) (tm xt tm' : List SV) (gl gl' : GL) (ok : Bool) (m : Nat), okOpsG os = true → exGs P G T ops bl os tm gl = some (ok, tm', gl') → ok = true → RelG tm gl xt →
    ∃ xt' m', exDs P G T ops bl.length os i n (⟨xt, bl, sv⟩, m) kk = kk (⟨xt', bl, sv⟩, m') ∧ RelG tm' gl' xt'
  | [], i, n, tm, xt, tm', gl, gl', ok, m, _, h, _, RR => by
    simp only [exGs, Option.some.injEq, Prod.mk.injEq] at h
    obtain ⟨_, rfl, rfl⟩ := h
    exact ⟨xt, m, rfl, RR⟩
  | o :: os, i, n, tm, xt, tm', gl, gl', ok, m, ho, h, hok, RR => by
    simp only [okOpsG, Bool.and_eq_true] at ho
    obtain ⟨g, v, ok1, hg, hf, hn, hv, hok1, hrest⟩ := exGs_cons h hok
    have hd := exG1_does RR hg hv hok1
    have R' := RR.put hf hn (u := bif holds tm g then v else .val undef) rfl
    generalize (bif holds tm g then v else .val undef) = u at hd R'
    have hold := und_xt RR hf
    simp only [exDs, okOpG_new ho.1, cond_false]
    have ap : ∀ (s : Bool) (mm : Nat) (k2 : DX → Option R), apD bl.length s o ⟨u, mm, .idle⟩ (⟨xt, bl, sv⟩, m) k2 = k2 (⟨putD xt o.dst u, bl, sv⟩, m ||| mm) := by
      intro s mm k2
      unfold apD applyF
      simp only [hold, cond_true]
    have stp : ∀ (s : Bool) (k2 : DX → Option R), ∃ mm, stepD P G T ops bl.length s o n (⟨xt, bl, sv⟩, m) k2 = k2 (⟨putD xt o.dst u, bl, sv⟩, m ||| mm) := by
      intro s k2
      unfold stepD
      rcases hd with ⟨hgd, ho⟩ | ⟨t, w, hgd, ho⟩ | ⟨hgd, rfl⟩ | ⟨t, b, w, hgd, hne, rfl⟩
      · simp only [hgd]
        unfold runD
        simp only [ho, cond_true]
        exact ⟨_, ap s _ k2⟩
      · have hs := gd_slot hgd
        simp only [hgd]
        refine ⟨rdOf (ev xt) o, ?_⟩
        cases w with
        | true =>
          simp only [cond_true, litX_same (x := (⟨xt, bl, sv⟩, m)) hs]
          unfold runD
          simp only [ho, cond_true]
          exact ap s _ k2
        | false =>
          simp only [cond_false, litX_same (x := (⟨xt, bl, sv⟩, m)) hs]
          unfold runD
          simp only [ho, cond_true]
          exact ap s _ k2
      · simp only [hgd]
        exact ⟨0, ap s 0 k2⟩
      · have hs := gd_slot hgd
        simp only [hgd]
        refine ⟨0, ?_⟩
        cases b <;> cases w <;> simp at hne
        · simp only [cond_true, cond_false, litX_same (x := (⟨xt, bl, sv⟩, m)) hs]; exact ap s 0 k2
        · simp only [cond_true, cond_false, litX_same (x := (⟨xt, bl, sv⟩, m)) hs]; exact ap s 0 k2
    obtain ⟨mm, he⟩ := stp (strongB ops i o 0 ops.toList) (fun y => exDs P G T ops bl.length os (i + 1) n y kk)
    rw [he]
    exact exGs_D os (i + 1) n _ _ tm' _ gl' true (m ||| mm) ho.2 hrest rfl R'
theorem exGs_O {R : Type} {bl : List (Option LB)} {sv : List (List SV)} {rec : Code → St → (Xt → St → Option R) → Option R} {kk : St → Option R} : ∀ (os : List Oper) (n : Nat) (tm xt tm' : List SV) (gl gl' : GL) (ok : Bool), okOpsG os = true → exGs P G T ops bl os tm gl = some (ok, tm', gl') → ok = true → RelG tm gl xt →
    ∃ xt', exOps P G T rec ops os n ⟨xt, bl, sv⟩ kk = kk ⟨xt', bl, sv⟩ ∧ RelG tm' gl' xt'
  | [], n, tm, xt, tm', gl, gl', ok, _, h, _, RR => by
    simp only [exGs, Option.some.injEq, Prod.mk.injEq] at h
    obtain ⟨_, rfl, rfl⟩ := h
    exact ⟨xt, rfl, RR⟩
  | o :: os, n, tm, xt, tm', gl, gl', ok, ho, h, hok, RR => by
    simp only [okOpsG, Bool.and_eq_true] at ho
    obtain ⟨g, v, ok1, hg, hf, hn, hv, hok1, hrest⟩ := exGs_cons h hok
    have hd := exG1_does RR hg hv hok1
    have R' := RR.put hf hn (u := bif holds tm g then v else .val undef) rfl
    generalize (bif holds tm g then v else .val undef) = u at hd R'
    simp only [exOps, okOpG_new ho.1, cond_false]
    have stp : ∀ k2 : St → Option R, stepE P G T rec ops o n ⟨xt, bl, sv⟩ k2 = k2 ⟨putD xt o.dst u, bl, sv⟩ := by
      intro k2
      have hrun : opV P G T bl (ev xt) o = some (true, u) → stepRun P G T rec o n ⟨xt, bl, sv⟩ k2 = k2 ⟨putD xt o.dst u, bl, sv⟩ := by
        intro ho
        unfold stepRun
        simp only [opV_noInline ho, ho, cond_true]
      unfold stepE
      rcases hd with ⟨hgd, ho⟩ | ⟨t, w, hgd, ho⟩ | ⟨hgd, rfl⟩ | ⟨t, b, w, hgd, hne, rfl⟩
      · simp only [hgd]; exact hrun ho
      · have hs := gd_slot hgd
        simp only [hgd]
        cases w with
        | true => simp only [cond_true, lit_same ⟨xt, bl, sv⟩ t true hs]; exact hrun ho
        | false => simp only [cond_false, lit_same ⟨xt, bl, sv⟩ t false hs]; exact hrun ho
      · simp only [hgd]; rfl
      · have hs := gd_slot hgd
        simp only [hgd]
        cases b <;> cases w <;> simp at hne
        · simp only [cond_true, cond_false, lit_same ⟨xt, bl, sv⟩ t false hs]; rfl
        · simp only [cond_true, cond_false, lit_same ⟨xt, bl, sv⟩ t true hs]; rfl
    rw [stp]
    exact exGs_O os n _ _ tm' _ gl' true ho.2 hrest rfl R'
theorem stripL_len {gl : GL} : ∀ (i : Nat) (l : List SV), (stripL gl i l).length = l.length
  | _, [] => rfl
  | i, s :: r => by simp [stripL, stripL_len (i + 1) r]
theorem stripL_nth {gl : GL} : ∀ (i t : Nat) (l : List SV), t < l.length → nth (stripL gl i l) t = bif isKey (i + t) gl then .unk else nth l t
  | _, _, [], h => by simp at h
  | i, 0, s :: r, _ => rfl
  | i, t + 1, s :: r, h => by
    simp only [stripL, nth]
    rw [stripL_nth (i + 1) t r (by simpa using h), show i + 1 + t = i + (t + 1) by omega]
theorem rls_weak {ρ : Nat → Nat} : ∀ {l l' : List SV} {xs : List Value}, l.length = l'.length → (∀ t, t < l.length → nth l' t = .unk ∨ nth l' t = nth l t) → SV.rls ρ l xs → SV.rls ρ l' xs
  | [], [], [], _, _, _ => by simp [SV.rls]
  | s :: r, s' :: r', x :: xs, hl, hn, h => by
    simp only [SV.rls] at h ⊢
    refine ⟨?_, rls_weak (by simpa using hl) (fun t ht => by have := hn (t + 1) (by simpa using ht); simpa [nth] using this) h.2⟩
    rcases hn 0 (by simp) with h0 | h0
    · simp only [nth] at h0; rw [h0]; simp [SV.rl]
    · simp only [nth] at h0; rw [h0]; exact h.1
  | [], _ :: _, _, hl, _, _ => by simp at hl
  | _ :: _, [], _, hl, _, _ => by simp at hl
  | _ :: _, _ :: _, [], _, _, h => by simp [SV.rls] at h
  | [], [], _ :: _, _, _, h => by simp [SV.rls] at h
theorem SRel.strip {ρ : Nat → Nat} {tm xt : List SV} {gl : GL} {bl : List (Option LB)} {sv : List (List SV)} {a : Act} {vs : List (List Value)} {w : World} (R : RelG tm gl xt) (S : SRel G base ρ ⟨xt, bl, sv⟩ a vs w) :
    SRel G base ρ ⟨stripL gl 0 tm, bl, sv⟩ a vs w := by
  refine ⟨rls_weak (by rw [stripL_len]; exact R.len) (fun t ht => ?_) S.tm, S.df, S.svd, S.M⟩
  have ht' : t < tm.length := by rw [← R.len]; exact ht
  rw [stripL_nth 0 t tm ht', Nat.zero_add]
  cases hk : isKey t gl with
  | true => left; rfl
  | false =>
    right
    have := R.at' t
    rw [lookGL_noKey hk] at this
    simp only [holds, cond_true] at this
    rw [this]; rfl
theorem news_okG : ∀ {l : List Oper}, okOpsG l = true → news l = 0
  | [], _ => rfl
  | o :: r, h => by
    simp only [okOpsG, Bool.and_eq_true] at h
    simp [news, okOpG_new h.1, news_okG h.2]
theorem recNoneG : RecOK (R := St) P G [] (fun _ _ _ => none) := by intro c st k r _ h; simp at h
theorem exG_good (hM : P.follows .mixedOrders = true) (hN : NoCount P) (hT : TabOK P G T) {id : Nat} {draw : Bool} {st st' : St} (h : exG P G T ops draw st = some (true, st')) :
    Good P G (.region id ops draw) st fun e s => e = .nrm ∧ s = st' := by
  intro base ρ a sv w Q S hQ
  unfold exG at h
  obtain ⟨hc, h⟩ := bif_t h
  simp only [Bool.and_eq_true, Bool.or_eq_true, Bool.not_eq_true'] at hc
  obtain ⟨_, hok, hsw⟩ := hc
  split at h <;> try (simp at h; done)
  rename_i ok tm gl hx
  simp only [Option.some.injEq, Prod.mk.injEq] at h
  obtain ⟨rfl, rfl⟩ := h
  have hnw := news_okG hok
  obtain ⟨tms, bls, svs⟩ := st
  cases draw with
  | true =>
    have hsw : swapOK ops = true := by simpa using hsw
    obtain ⟨xt, m', he, R'⟩ := exGs_D (R := St) (sv := svs) (kk := fun x => some x.1) ops.toList 0 bls.length tms tms tm [] gl true 0 hok hx rfl (RelG.start tms)
    have hD : exD P G T ops ⟨tms, bls, svs⟩ some = some ⟨xt, bls, svs⟩ := by
      unfold exD
      rw [hsw]
      simp only [cond_true, hnw, nones, List.append_nil]
      exact he
    refine exD_wp hM hT hD base ρ a sv w Q S fun e s ρ' a' w' ⟨he1, hk⟩ S' hb => ?_
    subst he1
    simp only [Option.some.injEq] at hk
    subst hk
    exact hQ .nrm _ ρ' a' w' ⟨rfl, rfl⟩ (S'.strip R') hb
  | false =>
    obtain ⟨xt, he, R'⟩ := exGs_O (R := St) (sv := svs) (rec := fun _ _ _ => none) (kk := some) ops.toList bls.length tms tms tm [] gl true hok hx rfl (RelG.start tms)
    refine wp_region_list (exOps_wp hN hT recNoneG ops.toList _ _ ρ a w S he fun s ρ' a' w' hk S' hb => ?_)
    simp only [Option.some.injEq] at hk
    subst hk
    exact hQ .nrm _ ρ' a' w' ⟨rfl, rfl⟩ (S'.strip R') hb
end
end
end Go.Wk
