/- Operators on numbers of chapter 13: the program's are the document's, and hold of the numbers. Conditions: none. -/
import Derived.Test.YtonpbbhlmapbdaaGreatDoorK2
set_option linter.unusedVariables false
set_option linter.unusedSimpArgs false
namespace Go.Proofs.YtonpbbhlmapbdaaGreatDoor.V
open Go Go.Wk Go.RowKit

def isOp (op : Int) : Prop := op = 1 ∨ op = 3 ∨ op = 4 ∨ op = 5 ∨ op = 6 ∨ op = 7
instance (op : Int) : Decidable (isOp op) := inferInstanceAs (Decidable (_ ∨ _))
def app6 (x : Nm) (e : Int) : Bool × Int × Int × Int × Int × Int := (x.1, x.2.1, x.2.2.1, x.2.2.2.1, x.2.2.2.2, e)
def mk4 (i : Int × Int × Bool) (c : Int × Int) : Nm := makeS i.1 i.2.1 c.1 c.2
noncomputable def applyN (op : Int) (x y : Nm) : Nm :=
  if op = 1 then mk4 (A.ival_Neg x.2.1 x.2.2.1) (B.negS x.2.2.2.1 x.2.2.2.2 (A.ival_Neg x.2.1 x.2.2.1).2.2)
  else if op = 3 then mk4 (A.ival_Add x.2.1 x.2.2.1 y.2.1 y.2.2.1) (B.addS x.2.2.2.1 x.2.2.2.2 y.2.2.2.1 y.2.2.2.2 (A.ival_Add x.2.1 x.2.2.1 y.2.1 y.2.2.1).2.2)
  else if op = 4 then mk4 (A.ival_Sub x.2.1 x.2.2.1 y.2.1 y.2.2.1) (B.subS x.2.2.2.1 x.2.2.2.2 y.2.2.2.1 y.2.2.2.2 (A.ival_Sub x.2.1 x.2.2.1 y.2.1 y.2.2.1).2.2)
  else if op = 5 then mk4 (A.ival_Mul x.2.1 x.2.2.1 y.2.1 y.2.2.1) (B.mulS x.2.2.2.1 x.2.2.2.2 y.2.2.2.1 y.2.2.2.2 (A.ival_Mul x.2.1 x.2.2.1 y.2.1 y.2.2.1).2.2)
  else if op = 6 then mk4 (A.ival_Div x.2.1 x.2.2.1 y.2.1 y.2.2.1) (B.divS x.2.2.2.1 x.2.2.2.2 y.2.2.2.1 y.2.2.2.2)
  else mk4 (A.ival_Rem x.2.1 x.2.2.1 y.2.1 y.2.2.1) (B.remS x.2.2.2.1 x.2.2.2.2 y.2.2.2.1 y.2.2.2.2)
def rhs (op : Int) (y : Nm) : Nm := if op = 6 ∨ op = 7 then nzN y else y
noncomputable def applyS (op : Int) (a b : Nm) : Nm :=
  if (normS a).1 = true ∨ ((rhs op (normS b)).1 = true ∧ op ≠ 1) then botS else applyN op (normS a) (rhs op (normS b))
theorem rhs_nf (op : Int) {y : Nm} (n : NF y) : NF (rhs op y) := by unfold rhs; split; exact nzN_nf n; exact n

/-! the numbers that operators give -/
def resS (op x y : Int) : Int := if op = 1 then IntKind.i64.wrap (0 - x) else if op = 3 then IntKind.i64.wrap (x + y) else if op = 4 then IntKind.i64.wrap (x - y) else if op = 5 then IntKind.i64.wrap (x * y) else if op = 6 then B.qw x y else B.rw' x y
theorem resS_I {op x y : Int} (hx : I64 x) : I64 (resS op x y) := by
  unfold resS
  (repeat' split) <;> first | exact B.wi_I _ | exact B.qw_I _ _ | exact B.rw_I hx
theorem nzN_lo {x : Nm} (n : NF x) (h : (nzN x).1 = false) : (nzN x).2.1 ≠ 0 := by
  have z := (nzN_nf n).nz h
  intro e
  have i := (nzN_in n z.w.l).1 z.l
  have i2 := i.2 e
  rw [nzN_same n (.inr i2)] at e
  exact i2.1 e
theorem qw_div {x y : Int} (hx : I64 x) (hy : y ≠ 0) : B.qw x y = if x = -9223372036854775808 ∧ y = -1 then -9223372036854775808 else x.tdiv y := by
  by_cases h : y = -1
  · subst h
    unfold B.qw
    rw [if_pos rfl]
    have e : x.tdiv (-1) = -x := by rw [Int.tdiv_neg, Int.tdiv_one]
    unfold I64 at hx
    by_cases hm : x = -9223372036854775808
    · rw [if_pos ⟨hm, rfl⟩, hm]; decide
    · rw [if_neg (fun q => hm q.1), e, wi_id (by omega) (by omega)]
  · rw [if_neg (fun q => h q.2), B.qw_eq hx hy h]
theorem rw_tmod (x y : Int) : B.rw' x y = x.tmod y := by
  unfold B.rw'
  by_cases h : y = -1
  · subst h; rw [if_pos rfl, Int.tmod_neg, Int.tmod_one]
  · rw [if_neg h]
theorem fitI {x : Int} (h : A.fit x) : I64 x := h
theorem span_I (x y : Int) : I64 (A.span_s x y).1 ∧ I64 (A.span_s x y).2.1 := by
  unfold A.span_s; split
  · exact ⟨B.wi_I _, B.wi_I _⟩
  · exact ⟨Imin, Imax⟩
theorem min_I {a b : Int} (ha : I64 a) (hb : I64 b) : I64 (min a b) := by unfold I64 at *; omega
theorem max_I {a b : Int} (ha : I64 a) (hb : I64 b) : I64 (max a b) := by unfold I64 at *; omega
theorem mulI (a b c d : Int) : I64 (A.mulS a b c d).1 ∧ I64 (A.mulS a b c d).2.1 := by
  unfold A.mulS; split
  · exact ⟨I1, I0⟩
  · split
    · rename_i h
      obtain ⟨p1, p2, p3, p4⟩ := h
      exact ⟨min_I (min_I p1 p2) (min_I p3 p4), max_I (max_I p1 p2) (max_I p3 p4)⟩
    · split
      · exact ⟨B.wi_I _, B.wi_I _⟩
      · exact ⟨Imin, Imax⟩
theorem Q_I {a b c d q : Int} (ha : I64 a) (hb : I64 b) (h : A.Q a b c d q) : I64 q := by
  obtain ⟨x, y, h1, h2, h3, h4, h5, rfl⟩ := h
  split
  · exact Imin
  · rename_i hn
    exact A.tdiv_I (by unfold I64 at *; omega) h5 (by by_cases e : x = -9223372036854775808
                                                      · right; exact fun e2 => hn ⟨e, e2⟩
                                                      · exact .inl e)
theorem divI {a b c d : Int} (ha : I64 a) (hb : I64 b) (hc : I64 c) (hd : I64 d) (h1 : a ≤ b) (h2 : c ≤ d) : I64 (A.ival_Div a b c d).1 ∧ I64 (A.ival_Div a b c d).2.1 := by
  rcases (A.ival_Div_s ha hb hc hd (by omega) (by omega)).1 with ⟨e, _⟩ | ⟨p, q, _⟩
  · simp only [Prod.mk.injEq] at e; rw [e.1, e.2]; exact ⟨I1, I0⟩
  · exact ⟨Q_I ha hb p, Q_I ha hb q⟩
theorem tmodI {x : Int} (y : Int) (h : I64 x) : I64 (x.tmod y) := by rw [← rw_tmod]; exact B.rw_I h
theorem remI {a b c d : Int} (ha : I64 a) (hb : I64 b) (hc : I64 c) (hd : I64 d) : I64 (A.ival_Rem a b c d).1 ∧ I64 (A.ival_Rem a b c d).2.1 := by
  rw [A.rem_eq ha hb hc hd]
  unfold A.ref_Rem A.ref_Rem.c A.ref_Rem.c0
  simp only [A.None_s, id]
  have key : ∀ (t : Int) (p q : Bool), I64 ((bif p then (a, b, true) else ((if (if IntKind.i64.wrap (0 - IntKind.i64.wrap t) > a then IntKind.i64.wrap (0 - IntKind.i64.wrap t) else a) < 0 then (if IntKind.i64.wrap (0 - IntKind.i64.wrap t) > a then IntKind.i64.wrap (0 - IntKind.i64.wrap t) else a) else 0), (if (if IntKind.i64.wrap t < b then IntKind.i64.wrap t else b) > 0 then (if IntKind.i64.wrap t < b then IntKind.i64.wrap t else b) else 0), true) : Int × Int × Bool)).1 ∧ I64 ((bif p then (a, b, true) else ((if (if IntKind.i64.wrap (0 - IntKind.i64.wrap t) > a then IntKind.i64.wrap (0 - IntKind.i64.wrap t) else a) < 0 then (if IntKind.i64.wrap (0 - IntKind.i64.wrap t) > a then IntKind.i64.wrap (0 - IntKind.i64.wrap t) else a) else 0), (if (if IntKind.i64.wrap t < b then IntKind.i64.wrap t else b) > 0 then (if IntKind.i64.wrap t < b then IntKind.i64.wrap t else b) else 0), true) : Int × Int × Bool)).2.1 := by
    intro t p q
    cases p with
    | true => exact ⟨ha, hb⟩
    | false => exact ⟨ite_I (ite_I (B.wi_I _) ha) I0, ite_I (ite_I (B.wi_I _) hb) I0⟩
  cases A.ref_Empty a b with
  | true => exact ⟨I1, I0⟩
  | false =>
    cases A.ref_Empty (A.ref_Meet c d (-9223372036854775808) (-1)).1 (A.ref_Meet c d (-9223372036854775808) (-1)).2 <;> cases A.ref_Empty (A.ref_Meet c d 1 9223372036854775807).1 (A.ref_Meet c d 1 9223372036854775807).2 <;> cases a == b <;> cases c == d <;> simp only [cond_true, cond_false] <;>
      first
      | exact ⟨I1, I0⟩
      | exact key _ _ true
      | (cases c != -1 <;> cases decide (c = 0) <;> simp only [cond_true, cond_false, Bool.not_true, Bool.not_false, Bool.and_self, Bool.true_or, Bool.false_or, Bool.and_true, Bool.true_and, Bool.or_true, Bool.or_false] <;> first | exact ⟨I0, I0⟩ | exact ⟨tmodI _ ha, tmodI _ ha⟩)
theorem applyN_spec {op : Int} {X Y : Nm} (zx : Nz X) (zy : Nz Y) (hop : isOp op) (hlo : (op = 6 ∨ op = 7) → Y.2.1 ≠ 0) :
    NF (applyN op X Y) ∧ ∀ x y, I64 x → I64 y → In X x → (op ≠ 1 → In Y y) → ((op = 6 ∨ op = 7) → y ≠ 0) → In (applyN op X Y) (resS op x y) := by
  have w := zx.w
  have v := zy.w
  have lx := zx.le
  have ly := zy.le
  rcases hop with rfl | rfl | rfl | rfl | rfl | rfl
  · unfold applyN resS mk4
    simp only [if_true]
    have e := A.neg_span w.l w.h lx
    have hI := span_I (0 - X.2.2.1) (0 - X.2.1)
    rw [← e] at hI
    have hs := fun (x : Int) (h1 : X.2.1 ≤ x) (h2 : x ≤ X.2.2.1) => A.span_in (l := 0 - X.2.2.1) (h := 0 - X.2.1) (z := 0 - x) (by omega) (by omega)
    have hf := fun (x : Int) (h1 : X.2.1 ≤ x) (h2 : x ≤ X.2.2.1) => A.span_fit (l := 0 - X.2.2.1) (h := 0 - X.2.1) (z := 0 - x) (by omega) (by omega)
    rw [← e] at hs hf
    have hu := B.neg_has (e := (A.ival_Neg X.2.1 X.2.2.1).2.2) w.m w.r w.l zx.l.2.2 (fun h => by have := hf _ (Int.le_refl _) lx h; unfold A.fit at this; omega)
    refine ⟨make_nf hI.1 hI.2 hu.1 hu.2.1, fun x y hx hy ix iy hz => ?_⟩
    rw [make_in hI.1 hI.2 hu.1 hu.2.1 (B.wi_I _)]
    exact ⟨hs x ix.2.1.1 ix.2.1.2, (B.neg_has w.m w.r hx ix.2.2 (fun h => by have := hf x ix.2.1.1 ix.2.1.2 h; unfold A.fit at this; omega)).2.2⟩
  · unfold applyN resS mk4
    simp only [show ¬ (3 : Int) = 1 by decide, if_true, if_false]
    have e := A.add_span w.l w.h v.l v.h lx ly
    have hI := span_I (X.2.1 + Y.2.1) (X.2.2.1 + Y.2.2.1)
    rw [← e] at hI
    have hs := fun (z : Int) => A.span_in (l := X.2.1 + Y.2.1) (h := X.2.2.1 + Y.2.2.1) (z := z)
    have hf := fun (z : Int) => A.span_fit (l := X.2.1 + Y.2.1) (h := X.2.2.1 + Y.2.2.1) (z := z)
    rw [← e] at hs hf
    have hu := B.add_has (e := (A.ival_Add X.2.1 X.2.2.1 Y.2.1 Y.2.2.1).2.2) w.m w.r v.m v.r zx.l.2.2 zy.l.2.2 (fun h => fitI (hf _ (by omega) (by omega) h))
    refine ⟨make_nf hI.1 hI.2 hu.1 hu.2.1, fun x y hx hy ix iy hz => ?_⟩
    have iy := iy (by decide)
    have a1 := ix.2.1
    have a2 := iy.2.1
    rw [make_in hI.1 hI.2 hu.1 hu.2.1 (B.wi_I _)]
    exact ⟨hs _ (by omega) (by omega), (B.add_has w.m w.r v.m v.r ix.2.2 iy.2.2 (fun h => fitI (hf _ (by omega) (by omega) h))).2.2⟩
  · unfold applyN resS mk4
    simp only [show ¬ (4 : Int) = 1 by decide, show ¬ (4 : Int) = 3 by decide, if_true, if_false]
    have e := A.sub_span w.l w.h v.l v.h lx ly
    have hI := span_I (X.2.1 - Y.2.2.1) (X.2.2.1 - Y.2.1)
    rw [← e] at hI
    have hs := fun (z : Int) => A.span_in (l := X.2.1 - Y.2.2.1) (h := X.2.2.1 - Y.2.1) (z := z)
    have hf := fun (z : Int) => A.span_fit (l := X.2.1 - Y.2.2.1) (h := X.2.2.1 - Y.2.1) (z := z)
    rw [← e] at hs hf
    have hu := B.sub_has (e := (A.ival_Sub X.2.1 X.2.2.1 Y.2.1 Y.2.2.1).2.2) w.m w.r v.m v.r zx.l.2.2 zy.l.2.2 (fun h => fitI (hf _ (by omega) (by omega) h))
    refine ⟨make_nf hI.1 hI.2 hu.1 hu.2.1, fun x y hx hy ix iy hz => ?_⟩
    have iy := iy (by decide)
    have a1 := ix.2.1
    have a2 := iy.2.1
    rw [make_in hI.1 hI.2 hu.1 hu.2.1 (B.wi_I _)]
    exact ⟨hs _ (by omega) (by omega), (B.sub_has w.m w.r v.m v.r ix.2.2 iy.2.2 (fun h => fitI (hf _ (by omega) (by omega) h))).2.2⟩
  · unfold applyN resS mk4
    simp only [show ¬ (5 : Int) = 1 by decide, show ¬ (5 : Int) = 3 by decide, show ¬ (5 : Int) = 4 by decide, if_true, if_false, A.ival_Mul_s w.l w.h v.l v.h]
    have hI := mulI X.2.1 X.2.2.1 Y.2.1 Y.2.2.1
    have hs := fun (x y : Int) (h1 : X.2.1 ≤ x) (h2 : x ≤ X.2.2.1) (h3 : Y.2.1 ≤ y) (h4 : y ≤ Y.2.2.1) => A.mul_in h1 h2 h3 h4
    have hu := B.mul_has (e := (A.mulS X.2.1 X.2.2.1 Y.2.1 Y.2.2.1).2.2) w.m w.r v.m v.r zx.l.2.2 zy.l.2.2 (fun h => fitI ((hs _ _ (Int.le_refl _) lx (Int.le_refl _) ly).2 h))
    refine ⟨make_nf hI.1 hI.2 hu.1 hu.2.1, fun x y hx hy ix iy hz => ?_⟩
    have iy := iy (by decide)
    have a1 := ix.2.1
    have a2 := iy.2.1
    rw [make_in hI.1 hI.2 hu.1 hu.2.1 (B.wi_I _)]
    exact ⟨(hs x y a1.1 a1.2 a2.1 a2.2).1, (B.mul_has w.m w.r v.m v.r ix.2.2 iy.2.2 (fun h => fitI ((hs x y a1.1 a1.2 a2.1 a2.2).2 h))).2.2⟩
  · unfold applyN resS mk4
    simp only [show ¬ (6 : Int) = 1 by decide, show ¬ (6 : Int) = 3 by decide, show ¬ (6 : Int) = 4 by decide, show ¬ (6 : Int) = 5 by decide, if_true, if_false]
    have hI := divI w.l w.h v.l v.h lx ly
    have hu := B.div_has w.m w.r v.m v.r w.l v.l zx.l.2.2 zy.l.2.2 (hlo (.inl rfl))
    refine ⟨make_nf hI.1 hI.2 hu.1 hu.2.1, fun x y hx hy ix iy hz => ?_⟩
    have iy := iy (by decide)
    have hz := hz (by simp)
    have a1 := ix.2.1
    have a2 := iy.2.1
    rw [make_in hI.1 hI.2 hu.1 hu.2.1 (B.qw_I _ _)]
    refine ⟨?_, (B.div_has w.m w.r v.m v.r hx hy ix.2.2 iy.2.2 hz).2.2⟩
    rw [qw_div hx hz]
    exact (A.div_in w.l w.h v.l v.h a1.1 a1.2 a2.1 a2.2 hz).1
  · unfold applyN resS mk4
    simp only [show ¬ (7 : Int) = 1 by decide, show ¬ (7 : Int) = 3 by decide, show ¬ (7 : Int) = 4 by decide, show ¬ (7 : Int) = 5 by decide, show ¬ (7 : Int) = 6 by decide, if_false]
    have hI := remI w.l w.h v.l v.h
    have hu := B.rem_has w.m w.r v.m v.r w.l v.l zx.l.2.2 zy.l.2.2 (hlo (.inr rfl))
    refine ⟨make_nf hI.1 hI.2 hu.1 hu.2.1, fun x y hx hy ix iy hz => ?_⟩
    have iy := iy (by decide)
    have hz := hz (by simp)
    have a1 := ix.2.1
    have a2 := iy.2.1
    rw [make_in hI.1 hI.2 hu.1 hu.2.1 (B.rw_I hx)]
    refine ⟨?_, (B.rem_has w.m w.r v.m v.r hx hy ix.2.2 iy.2.2 hz).2.2⟩
    rw [rw_tmod]
    exact A.rem_in w.l w.h v.l v.h a1.1 a1.2 a2.1 a2.2 hz
theorem nz1 {x : Nm} (n : NF x) (h : ¬ x.1 = true) : Nz x := n.nz (by simpa using h)
theorem apply_nf {op : Int} {a b : Nm} (ha : Raw a) (hb : Raw b) (hop : isOp op) : NF (applyS op a b) := by
  unfold applyS
  split
  · exact .bot
  · rename_i h
    simp only [not_or, not_and] at h
    have n1 := norm_nf ha
    have n2 := rhs_nf op (norm_nf hb)
    have z1 := nz1 n1 h.1
    by_cases e : op = 1
    · subst e
      unfold applyN mk4
      simp only [if_true]
      have e := A.neg_span z1.w.l z1.w.h z1.le
      have hI := span_I (0 - (normS a).2.2.1) (0 - (normS a).2.1)
      have hf := A.span_fit (l := 0 - (normS a).2.2.1) (h := 0 - (normS a).2.1) (z := 0 - (normS a).2.1) (by have := z1.le; omega) (by omega)
      rw [← e] at hI hf
      have hu := B.neg_has (e := (A.ival_Neg (normS a).2.1 (normS a).2.2.1).2.2) z1.w.m z1.w.r z1.w.l z1.l.2.2 (fun h => by have := hf h; unfold A.fit at this; omega)
      exact make_nf hI.1 hI.2 hu.1 hu.2.1
    · have z2 := nz1 n2 (fun q => h.2 q e)
      refine (applyN_spec z1 z2 hop fun q => ?_).1
      unfold rhs at z2 ⊢
      rw [if_pos q] at z2 ⊢
      exact nzN_lo (norm_nf hb) z2.b
/-- what an operator gives of any numbers of two is in what it gives of the two -/
theorem apply_in {op : Int} {a b : Nm} (ha : Raw a) (hb : Raw b) (hop : isOp op) {x y : Int} (hx : I64 x) (hy : I64 y) (ix : In a x) (iy : op ≠ 1 → In b y) (hz : (op = 6 ∨ op = 7) → y ≠ 0) : In (applyS op a b) (resS op x y) := by
  have n1 := norm_nf ha
  have n2 := rhs_nf op (norm_nf hb)
  have ix := (norm_in ha hx).2 ix
  by_cases e : op = 1
  · subst e
    unfold applyS
    have hc : ¬ ((normS a).1 = true ∨ ((rhs 1 (normS b)).1 = true ∧ (1 : Int) ≠ 1)) := by
      rintro (q | ⟨_, q⟩)
      · rw [ix.1] at q; simp at q
      · exact q rfl
    rw [if_neg hc]
    have z1 := n1.nz ix.1
    -- the second operand is not looked at
    have key := (applyN_spec (op := 1) (Y := normS a) z1 z1 (.inl rfl) (fun q => by omega)).2 x x hx hx ix (fun q => (q rfl).elim) (fun q => by omega)
    unfold applyN resS at key ⊢
    simp only [if_true] at key ⊢
    exact key
  · have iy' := (norm_in hb hy).2 (iy e)
    have iy2 : In (rhs op (normS b)) y := by
      unfold rhs
      split
      · rename_i q; exact (nzN_in (norm_nf hb) hy).2 ⟨iy', fun v0 => (hz q v0).elim⟩
      · exact iy'
    unfold applyS
    rw [if_neg (by rintro (q | ⟨q, _⟩)
                   · rw [ix.1] at q; simp at q
                   · rw [iy2.1] at q; simp at q)]
    have z1 := n1.nz ix.1
    have z2 := n2.nz iy2.1
    refine (applyN_spec z1 z2 hop fun q => ?_).2 x y hx hy ix (fun _ => iy2) hz
    unfold rhs at z2 ⊢
    rw [if_pos q] at z2 ⊢
    exact nzN_lo (norm_nf hb) z2.b
end Go.Proofs.YtonpbbhlmapbdaaGreatDoor.V
