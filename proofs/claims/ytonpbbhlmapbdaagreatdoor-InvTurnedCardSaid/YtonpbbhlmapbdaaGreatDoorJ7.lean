/- InvTurned: comparisons changed about, and of single numbers; the law function evaluated. Conditions: none. -/
import Derived.Test.YtonpbbhlmapbdaaGreatDoorKB
import Derived.Test.YtonpbbhlmapbdaaGreatDoorJ4
import Derived.Test.YtonpbbhlmapbdaaGreatDoorJ6
set_option linter.unusedVariables false
set_option linter.unusedSimpArgs false
namespace Go.Proofs.YtonpbbhlmapbdaaGreatDoor.V
open Go Go.Wk Go.RowKit

theorem meet_comm {x y : Nm} (hx : Raw x) (hy : Raw y) : meetS x y = meetS y x :=
  nf_iff (meet_nf hx hy) (meet_nf hy hx) fun v hv => by rw [meet_in hx hy hv, meet_in hy hx hv]; exact And.comm
theorem bk_cmp {op : Int} (o : isCmp op) : isCmp (bkS op) := by
  rcases o with rfl | rfl | rfl | rfl | rfl | rfl <;> decide
theorem bk_ncmp {op : Int} (o : ¬ isCmp op) : ¬ isCmp (bkS op) := by
  unfold isCmp at o
  unfold bkS
  rw [if_neg (by omega), if_neg (by omega), if_neg (by omega), if_neg (by omega), if_neg (by omega), if_neg (by omega)]
  decide
theorem both_swap (p : Nm × Nm) : bothS (p.2, p.1) = ((bothS p).2, (bothS p).1) := by
  unfold bothS
  by_cases h : p.1.1 = true ∨ p.2.1 = true
  · rw [if_pos h, if_pos h.symm]
  · rw [if_neg h, if_neg (fun q => h q.symm)]
theorem cmpN_swap {op : Int} (o : isCmp op) {a b : Nm} (ha : Raw a) (hb : Raw b) : cmpN (bkS op) b a = ((cmpN op a b).2, (cmpN op a b).1) := by
  have hm := meet_comm ha hb
  rcases o with rfl | rfl | rfl | rfl | rfl | rfl <;> simp [cmpN, bkS, hm]
theorem cmp_swap {op : Int} (o : isCmp op) {a b : Nm} (ha : Raw a) (hb : Raw b) : cmpS (bkS op) b a = ((cmpS op a b).2, (cmpS op a b).1) := by
  unfold cmpS
  by_cases h : (normS a).1 = true ∨ (normS b).1 = true
  · rw [if_pos h, if_pos h.symm]
  · rw [if_neg h, if_neg (fun q => h q.symm), cmpN_swap o (norm_raw ha) (norm_raw hb), both_swap]
theorem nf_empty {x : Nm} (n : NF x) (h : ∀ v, I64 v → ¬ In x v) : x.1 = true := by
  rcases nf_ne n with h1 | z
  · exact h1
  · exact absurd z.l (h _ z.w.l)
theorem lt_empty {v w : Int} (hv : I64 v) (hw : I64 w) (h : ¬ v < w) : (ltS (constS v) (constS w)).1.1 = true := by
  unfold ltS
  split
  · rfl
  · rename_i hs
    have hs1 : w ≠ -9223372036854775808 := fun e => hs (.inl e)
    have hw1 : I64 (w - 1) := by unfold I64 at hw ⊢; omega
    have e : IntKind.i64.wrap (w - 1) = w - 1 := wi_id hw1.1 hw1.2
    refine nf_empty (meet_nf (raw_const hv) (to_nf (B.wi_I _)).raw) fun u hu hi => ?_
    obtain ⟨i1, i2⟩ := (meet_in (raw_const hv) (to_nf (B.wi_I _)).raw hu).1 hi
    have e1 := (in_const hv).1 i1
    have e2 := (to_in (B.wi_I _) hu).1 i2
    have e3 : u ≤ IntKind.i64.wrap (w - 1) := e2
    rw [e] at e3
    omega
theorem le_empty {v w : Int} (hv : I64 v) (hw : I64 w) (h : ¬ v ≤ w) : (leP (constS v) (constS w)).1.1 = true := by
  refine nf_empty (meet_nf (raw_const hv) (to_nf hw).raw) fun u hu hi => ?_
  obtain ⟨i1, i2⟩ := (meet_in (raw_const hv) (to_nf hw).raw hu).1 hi
  have e1 := (in_const hv).1 i1
  have e2 := (to_in hw hu).1 i2
  omega
theorem wo_empty {v : Int} (hv : I64 v) : (wo (constS v) (constS v)).1 = true := by
  have h1 : (less1 (constS v) v).1 = true := by
    unfold less1
    rw [if_pos (show (constS v).2.1 = v from rfl)]
    split
    · rfl
    · rename_i hs
      have hv1 : I64 (v + 1) := by unfold I64 at hv ⊢; omega
      have e : IntKind.i64.wrap (v + 1) = v + 1 := wi_id hv1.1 hv1.2
      refine nf_empty (meet_nf (raw_const hv) (from_nf (B.wi_I _)).raw) fun u hu hi => ?_
      obtain ⟨i1, i2⟩ := (meet_in (raw_const hv) (from_nf (B.wi_I _)).raw hu).1 hi
      have e1 := (in_const hv).1 i1
      have e2 := (from_in (B.wi_I _) hu).1 i2
      rw [e] at e2
      omega
  unfold wo
  rw [if_pos (show (constS v).2.1 = (constS v).2.2.1 from rfl)]
  show (less2 (less1 (constS v) v) v).1 = true
  unfold less2
  rw [if_neg (fun q => by rw [h1] at q; simp at q)]
  exact h1
theorem cmpN_empty {op : Int} (o : isCmp op) {v w : Int} (hv : I64 v) (hw : I64 w) (h : ¬ holdsP op v w) : (cmpN op (constS v) (constS w)).1.1 = true ∨ (cmpN op (constS v) (constS w)).2.1 = true := by
  rcases o with rfl | rfl | rfl | rfl | rfl | rfl
  · exact .inl (lt_empty hv hw h)
  · exact .inl (le_empty hv hw h)
  · exact .inr (lt_empty hw hv h)
  · exact .inr (le_empty hw hv h)
  · left
    show (meetS (constS v) (constS w)).1 = true
    refine nf_empty (meet_nf (raw_const hv) (raw_const hw)) fun u hu hi => ?_
    obtain ⟨i1, i2⟩ := (meet_in (raw_const hv) (raw_const hw) hu).1 hi
    exact h (((in_const hv).1 i1).symm.trans ((in_const hw).1 i2))
  · left
    have e : v = w := Decidable.byContradiction fun q => h ⟨rfl, q⟩
    subst e
    exact wo_empty hv
theorem cmp_const {op : Int} (o : isCmp op) {v w : Int} (hv : I64 v) (hw : I64 w) : cmpS op (constS v) (constS w) = if holdsP op v w then (constS v, constS w) else (botS, botS) := by
  by_cases h : holdsP op v w
  · rw [if_pos h]
    obtain ⟨⟨n1, n2⟩, ⟨s1, s2⟩, k⟩ := cmp_spec o (raw_const hv) (raw_const hw)
    obtain ⟨k1, k2⟩ := k v w hv hw ((in_const hv).2 rfl) ((in_const hw).2 rfl) h
    have e1 : (cmpS op (constS v) (constS w)).1 = constS v := nf_ext n1 (.one hv) s1 fun u hu i => by rw [(in_const hv).1 i]; exact k1
    have e2 : (cmpS op (constS v) (constS w)).2 = constS w := nf_ext n2 (.one hw) s2 fun u hu i => by rw [(in_const hw).1 i]; exact k2
    exact Prod.ext e1 e2
  · rw [if_neg h]
    unfold cmpS
    rw [norm_fix (.one hv), norm_fix (.one hw), if_neg (by simp [constS])]
    unfold bothS
    rw [if_pos (cmpN_empty o hv hw h)]
theorem turned.v {γ : Type} (n : γ) (k : Bool → γ) {op : Int} {p0 p5 p10 : Bool} {p1 p2 p3 p4 p6 p7 p8 p9 p11 p12 p13 p14 v w : Int} (h : Raw (p0, p1, p2, p3, p4)) (h' : Raw (p5, p6, p7, p8, p9)) (hv : I64 v) (hw : I64 w) :
    turned.c n k op (bkS op) p0 p1 p2 p3 p4 p5 p6 p7 p8 p9 p10 p11 p12 p13 p14 v w = k true := by
  have e1 := fun (op : Int) => (inv_Compare_ok (op := op) h h' : inv_Compare.ok op p0 p1 p2 p3 p4 p5 p6 p7 p8 p9 = true)
  have e2 := fun (op : Int) => (inv_Compare_ok (op := op) h' h : inv_Compare.ok op p5 p6 p7 p8 p9 p0 p1 p2 p3 p4 = true)
  have e3 := fun (op : Int) => (inv_Compare_s (op := op) h h' : inv_Compare op p0 p1 p2 p3 p4 p5 p6 p7 p8 p9 = _)
  have e4 := fun (op : Int) => (inv_Compare_s (op := op) h' h : inv_Compare op p5 p6 p7 p8 p9 p0 p1 p2 p3 p4 = _)
  unfold turned.c turned.c0
  simp only [e1, e2, e3, e4, nref_Const_s, inv_Compare_ok (raw_const hv) (raw_const hw), inv_Compare_s (raw_const hv) (raw_const hw), taken_ok, taken_s, nref_Bot_s, holds_s, cond_true]
  by_cases o : isCmp op
  · simp only [if_pos o, if_pos (bk_cmp o), cmp_swap o h h', cmp_const o hv hw]
    by_cases c : holdsP op v w
    · rw [if_pos c, decide_eq_true c]
      simp [app11]
    · rw [if_neg c, decide_eq_false c]
      simp [app11]
  · simp only [if_neg o, if_neg (bk_ncmp o)]
    simp [app11, botS]
end Go.Proofs.YtonpbbhlmapbdaaGreatDoor.V
