/- Comparisons of chapter 14, the program's and the document's. Conditions: none. -/
import Derived.Test.YtonpbbhlmapbdaaGreatDoorK5
import Derived.Test.YtonpbbhlmapbdaaGreatDoorG1
set_option linter.unusedVariables false
set_option linter.unusedSimpArgs false
namespace Go.Proofs.YtonpbbhlmapbdaaGreatDoor.V
open Go Go.Wk Go.RowKit

theorem raw5 {a0 : Bool} {a1 a2 a3 a4 : Int} (h1 : I64 a1) (h2 : I64 a2) (h3 : U64 a3) (h4 : U64 a4) : Raw (a0, a1, a2, a3, a4) := ⟨h1, h2, h3, h4⟩
theorem Ik (k : Int) (h : -1000 < k ∧ k < 1000) : I64 k := by unfold I64; omega
theorem Uk (k : Int) (h : 0 ≤ k ∧ k < 1000) : U64 k := by unfold U64; omega
def ten (p : Nm × Nm) : Bool × Int × Int × Int × Int × Bool × Int × Int × Int × Int := (p.1.1, p.1.2.1, p.1.2.2.1, p.1.2.2.2.1, p.1.2.2.2.2, p.2.1, p.2.2.1, p.2.2.2.1, p.2.2.2.2.1, p.2.2.2.2.2)
def app11 (p : Nm × Nm) (e : Int) : Bool × Int × Int × Int × Int × Bool × Int × Int × Int × Int × Int := (p.1.1, p.1.2.1, p.1.2.2.1, p.1.2.2.2.1, p.1.2.2.2.2, p.2.1, p.2.2.1, p.2.2.2.1, p.2.2.2.2.1, p.2.2.2.2.2, e)
def fromS (v : Int) : Nm := rangeS v 9223372036854775807
def toS (v : Int) : Nm := rangeS (-9223372036854775808) v
theorem from_nf {v : Int} (h : I64 v) : NF (fromS v) := make_nf h Imax U1 U0
theorem to_nf {v : Int} (h : I64 v) : NF (toS v) := make_nf Imin h U1 U0
theorem from_in {v w : Int} (h : I64 v) (hw : I64 w) : In (fromS v) w ↔ v ≤ w := by
  unfold fromS rangeS; rw [make_in h Imax U1 U0 hw]
  unfold I64 at hw
  exact ⟨fun q => q.1.1, fun q => ⟨⟨q, by omega⟩, has_one w⟩⟩
theorem to_in {v w : Int} (h : I64 v) (hw : I64 w) : In (toS v) w ↔ w ≤ v := by
  unfold toS rangeS; rw [make_in Imin h U1 U0 hw]
  unfold I64 at hw
  exact ⟨fun q => q.1.2, fun q => ⟨⟨by omega, q⟩, has_one w⟩⟩
def bothS (p : Nm × Nm) : Nm × Nm := if p.1.1 = true ∨ p.2.1 = true then (botS, botS) else p
noncomputable def ltS (a b : Nm) : Nm × Nm := if b.2.2.1 = -9223372036854775808 ∨ a.2.1 = 9223372036854775807 then (botS, botS) else (meetS a (toS (IntKind.i64.wrap (b.2.2.1 - 1))), meetS b (fromS (IntKind.i64.wrap (a.2.1 + 1))))
noncomputable def leP (a b : Nm) : Nm × Nm := (meetS a (toS b.2.2.1), meetS b (fromS a.2.1))
noncomputable def less1 (a : Nm) (v : Int) : Nm := if a.2.1 = v then (if v = 9223372036854775807 then botS else meetS a (fromS (IntKind.i64.wrap (v + 1)))) else a
noncomputable def less2 (a : Nm) (v : Int) : Nm := if a.1 = false ∧ a.2.2.1 = v then (if v = -9223372036854775808 then botS else meetS a (toS (IntKind.i64.wrap (v - 1)))) else a
noncomputable def lessS (a : Nm) (v : Int) : Nm := less2 (less1 a v) v
noncomputable def wo (a b : Nm) : Nm := if b.2.1 = b.2.2.1 then lessS a b.2.1 else a
section
variable {x y : Nm}
theorem rM_ok (hx : Raw x) (hy : Raw y) : nref_Meet.ok x.1 x.2.1 x.2.2.1 x.2.2.2.1 x.2.2.2.2 y.1 y.2.1 y.2.2.1 y.2.2.2.1 y.2.2.2.2 = true := nref_Meet_ok hx hy
theorem rM_s (hx : Raw x) (hy : Raw y) : nref_Meet x.1 x.2.1 x.2.2.1 x.2.2.2.1 x.2.2.2.2 y.1 y.2.1 y.2.2.1 y.2.2.2.1 y.2.2.2.2 = meetS x y := nref_Meet_s hx hy
theorem nM_ok (hx : Raw x) (hy : Raw y) : num_Meet.ok x.1 x.2.1 x.2.2.1 x.2.2.2.1 x.2.2.2.2 y.1 y.2.1 y.2.2.1 y.2.2.2.1 y.2.2.2.2 = true := num_Meet_ok hx hy
theorem nM_s (hx : Raw x) (hy : Raw y) : num_Meet x.1 x.2.1 x.2.2.1 x.2.2.2.1 x.2.2.2.2 y.1 y.2.1 y.2.2.1 y.2.2.2.1 y.2.2.2.2 = meetS x y := num_Meet_s hx hy
theorem rN_ok (hx : Raw x) : nref_Norm.ok x.1 x.2.1 x.2.2.1 x.2.2.2.1 x.2.2.2.2 = true := nref_Norm_ok hx
theorem rN_s (hx : Raw x) : nref_Norm x.1 x.2.1 x.2.2.1 x.2.2.2.1 x.2.2.2.2 = normS x := nref_Norm_s hx
theorem nN_s (hx : Raw x) : num_Norm x.1 x.2.1 x.2.2.1 x.2.2.2.1 x.2.2.2.2 = normS x := num_Norm_s hx
theorem inv_from_s {v : Int} (h : I64 v) : inv_from v = fromS v := by
  unfold inv_from inv_from.c inv_from.c0; simp only [num_Range_s h Imax, id]; rfl
theorem inv_to_s {v : Int} (h : I64 v) : inv_to v = toS v := by
  unfold inv_to inv_to.c inv_to.c0; simp only [num_Range_s Imin h, id]; rfl
theorem r14_from_k {γ : Type} (n : γ) (k : Nm → γ) {v : Int} (h : I64 v) : r14_from.c n k v = k (fromS v) := by
  unfold r14_from.c r14_from.c0; simp only [nref_Range_ok h Imax, nref_Range_s h Imax, cond_true]; rfl
theorem r14_from_ok {v : Int} (h : I64 v) : r14_from.ok v = true := r14_from_k _ _ h
theorem r14_from_s {v : Int} (h : I64 v) : r14_from v = fromS v := r14_from_k _ _ h
theorem r14_to_k {γ : Type} (n : γ) (k : Nm → γ) {v : Int} (h : I64 v) : r14_to.c n k v = k (toS v) := by
  unfold r14_to.c r14_to.c0; simp only [nref_Range_ok Imin h, nref_Range_s Imin h, cond_true]; rfl
theorem r14_to_ok {v : Int} (h : I64 v) : r14_to.ok v = true := r14_to_k _ _ h
theorem r14_to_s {v : Int} (h : I64 v) : r14_to v = toS v := r14_to_k _ _ h
theorem r14_bot_k {γ : Type} (n : γ) (k : Bool → γ) (h : Raw x) : r14_bot.c n k x.1 x.2.1 x.2.2.1 x.2.2.2.1 x.2.2.2.2 = k (normS x).1 := by
  unfold r14_bot.c r14_bot.c0; simp only [rN_ok h, rN_s h, cond_true]
theorem r14_bot_ok (h : Raw x) : r14_bot.ok x.1 x.2.1 x.2.2.1 x.2.2.2.1 x.2.2.2.2 = true := r14_bot_k _ _ h
theorem r14_bot_s (h : Raw x) : r14_bot x.1 x.2.1 x.2.2.1 x.2.2.2.1 x.2.2.2.2 = (normS x).1 := r14_bot_k _ _ h
theorem r14_one_s : r14_one x.1 x.2.1 x.2.2.1 x.2.2.2.1 x.2.2.2.2 = (!x.1 && (x.2.1 == x.2.2.1)) := by
  unfold r14_one r14_one.c r14_one.c0; cases x.1 <;> rfl
theorem inv_one_s : inv_one x.1 x.2.1 x.2.2.1 x.2.2.2.1 x.2.2.2.2 = (x.2.1, !x.1 && (x.2.1 == x.2.2.1)) := by
  unfold inv_one inv_one.c inv_one.c0; cases x.1 <;> rfl
theorem r14_both_s : r14_both x.1 x.2.1 x.2.2.1 x.2.2.2.1 x.2.2.2.2 y.1 y.2.1 y.2.2.1 y.2.2.2.1 y.2.2.2.2 = app11 (bothS (x, y)) 0 := by
  unfold r14_both r14_both.c r14_both.c0 bothS app11
  simp only [nref_Bot_s, id]
  cases e1 : x.1 <;> cases e2 : y.1 <;> simp [botS, e1, e2]
theorem inv_told_s : inv_told x.1 x.2.1 x.2.2.1 x.2.2.2.1 x.2.2.2.2 y.1 y.2.1 y.2.2.1 y.2.2.2.1 y.2.2.2.2 = ten (bothS (x, y)) := by
  unfold inv_told inv_told.c inv_told.c0 bothS ten
  simp only [num_Bot_s, id]
  cases e1 : x.1 <;> cases e2 : y.1 <;> simp [botS, e1, e2]
theorem inv_below_k {γ : Type} (n : γ) (k : Bool × Int × Int × Int × Int × Bool × Int × Int × Int × Int → γ) (hx : Raw x) (hy : Raw y) : inv_below.c n k x.1 x.2.1 x.2.2.1 x.2.2.2.1 x.2.2.2.2 y.1 y.2.1 y.2.2.1 y.2.2.2.1 y.2.2.2.2 = k (ten (ltS x y)) := by
  unfold inv_below.c inv_below.c0 ltS ten
  simp only [inv_to_s (B.wi_I _), inv_from_s (B.wi_I _), nM_ok hx (to_nf (B.wi_I _)).raw, nM_s hx (to_nf (B.wi_I _)).raw, nM_ok hy (from_nf (B.wi_I _)).raw, nM_s hy (from_nf (B.wi_I _)).raw, num_Bot_s, cond_true]
  by_cases h1 : y.2.2.1 = -9223372036854775808 <;> by_cases h2 : x.2.1 = 9223372036854775807 <;> simp [h1, h2, botS, Bool.cond_eq_ite]
theorem inv_below_ok (hx : Raw x) (hy : Raw y) : inv_below.ok x.1 x.2.1 x.2.2.1 x.2.2.2.1 x.2.2.2.2 y.1 y.2.1 y.2.2.1 y.2.2.2.1 y.2.2.2.2 = true := inv_below_k _ _ hx hy
theorem inv_below_s (hx : Raw x) (hy : Raw y) : inv_below x.1 x.2.1 x.2.2.1 x.2.2.2.1 x.2.2.2.2 y.1 y.2.1 y.2.2.1 y.2.2.2.1 y.2.2.2.2 = ten (ltS x y) := inv_below_k _ _ hx hy
theorem inv_upTo_k {γ : Type} (n : γ) (k : Bool × Int × Int × Int × Int × Bool × Int × Int × Int × Int → γ) (hx : Raw x) (hy : Raw y) : inv_upTo.c n k x.1 x.2.1 x.2.2.1 x.2.2.2.1 x.2.2.2.2 y.1 y.2.1 y.2.2.1 y.2.2.2.1 y.2.2.2.2 = k (ten (leP x y)) := by
  unfold inv_upTo.c inv_upTo.c0 leP ten
  simp only [inv_to_s hy.h, inv_from_s hx.l, nM_ok hx (to_nf hy.h).raw, nM_s hx (to_nf hy.h).raw, nM_ok hy (from_nf hx.l).raw, nM_s hy (from_nf hx.l).raw, cond_true]
theorem inv_upTo_ok (hx : Raw x) (hy : Raw y) : inv_upTo.ok x.1 x.2.1 x.2.2.1 x.2.2.2.1 x.2.2.2.2 y.1 y.2.1 y.2.2.1 y.2.2.2.1 y.2.2.2.2 = true := inv_upTo_k _ _ hx hy
theorem inv_upTo_s (hx : Raw x) (hy : Raw y) : inv_upTo x.1 x.2.1 x.2.2.1 x.2.2.2.1 x.2.2.2.2 y.1 y.2.1 y.2.2.1 y.2.2.2.1 y.2.2.2.2 = ten (leP x y) := inv_upTo_k _ _ hx hy
theorem inv_without_k {γ : Type} (n : γ) (k : Nm → γ) (hx : NF x) (hy : NF y) (hxb : x.1 = false) (hyb : y.1 = false) : inv_without.c n k x.1 x.2.1 x.2.2.1 x.2.2.2.1 x.2.2.2.2 y.1 y.2.1 y.2.2.1 y.2.2.2.1 y.2.2.2.2 = k (wo x y) := by
  have rx := hx.raw
  have m1 := meet_nf rx (from_nf (B.wi_I (y.2.1 + 1))).raw
  unfold inv_without.c inv_without.c0 wo lessS less1 less2
  simp only [inv_one_s]
  simp only [inv_to_s (B.wi_I _), inv_from_s (B.wi_I _), nM_ok rx (to_nf (B.wi_I _)).raw, nM_s rx (to_nf (B.wi_I _)).raw, nM_ok rx (from_nf (B.wi_I _)).raw, nM_s rx (from_nf (B.wi_I _)).raw, nM_ok m1.raw (to_nf (B.wi_I _)).raw, nM_s m1.raw (to_nf (B.wi_I _)).raw, num_Bot_s, cond_true]
  simp only [hxb, hyb, Bool.not_false, Bool.true_and]
  by_cases h0 : y.2.1 = y.2.2.1
  · by_cases h1 : x.2.1 = y.2.1
    · by_cases h2 : y.2.1 = 9223372036854775807
      · have : ¬ (9223372036854775807 : Int) = -9223372036854775808 := by decide
        simp [← h0, h1, h2, botS]
      · generalize meetS x (fromS (IntKind.i64.wrap (y.2.1 + 1))) = M
        rw [← h0] at *
        obtain ⟨mb, ml, mh, mm, mr⟩ := M
        have b2 : (y.2.1 == 9223372036854775807) = false := by simpa using h2
        simp only [h1, beq_self_eq_true, Bool.not_true, cond_false, cond_true, b2, if_true, if_neg h2]
        cases mb <;> by_cases h3 : mh = y.2.1 <;> by_cases h4 : y.2.1 = -9223372036854775808 <;> simp [h3, h4, botS, Bool.cond_eq_ite] <;> (by_cases h5 : mh = -9223372036854775808 <;> simp [h5])
    · have b1 : (x.2.1 == y.2.1) = false := by simpa using h1
      rw [← h0]
      simp only [beq_self_eq_true, Bool.not_true, cond_false, b1, if_neg h1, if_true, hxb, Bool.not_false, cond_true, true_and]
      by_cases h3 : x.2.2.1 = y.2.1
      · by_cases h4 : y.2.1 = -9223372036854775808 <;> simp [h3, h4, botS, Bool.cond_eq_ite]
      · have b3 : (x.2.2.1 == y.2.1) = false := by simpa using h3
        rw [b3, if_neg h3, cond_false, ← hxb]
  · have b0 : (y.2.1 == y.2.2.1) = false := by simpa using h0
    rw [b0, if_neg h0, Bool.not_false, cond_true, ← hxb]
theorem inv_without_ok (hx : NF x) (hy : NF y) (hxb : x.1 = false) (hyb : y.1 = false) : inv_without.ok x.1 x.2.1 x.2.2.1 x.2.2.2.1 x.2.2.2.2 y.1 y.2.1 y.2.2.1 y.2.2.2.1 y.2.2.2.2 = true := inv_without_k _ _ hx hy hxb hyb
theorem inv_without_s (hx : NF x) (hy : NF y) (hxb : x.1 = false) (hyb : y.1 = false) : inv_without x.1 x.2.1 x.2.2.1 x.2.2.2.1 x.2.2.2.2 y.1 y.2.1 y.2.2.1 y.2.2.2.1 y.2.2.2.2 = wo x y := inv_without_k _ _ hx hy hxb hyb
theorem r14_less_k {γ : Type} (n : γ) (k : Nm → γ) {v : Int} (hx : NF x) (hxb : x.1 = false) : r14_lessAtEnds.c n k x.1 x.2.1 x.2.2.1 x.2.2.2.1 x.2.2.2.2 v = k (lessS x v) := by
  have rx := hx.raw
  have m1 := meet_nf rx (from_nf (B.wi_I (v + 1))).raw
  unfold r14_lessAtEnds.c r14_lessAtEnds.c0 lessS less1 less2
  simp only [r14_to_ok (B.wi_I _), r14_from_ok (B.wi_I _), r14_to_s (B.wi_I _), r14_from_s (B.wi_I _), rM_ok rx (to_nf (B.wi_I _)).raw, rM_s rx (to_nf (B.wi_I _)).raw, rM_ok rx (from_nf (B.wi_I _)).raw, rM_s rx (from_nf (B.wi_I _)).raw, rM_ok m1.raw (to_nf (B.wi_I _)).raw, rM_s m1.raw (to_nf (B.wi_I _)).raw, nref_Bot_s, cond_true]
  simp only [hxb]
  by_cases h1 : x.2.1 = v
  · by_cases h2 : v = 9223372036854775807
    · have : ¬ (9223372036854775807 : Int) = -9223372036854775808 := by decide
      simp [h1, h2, botS]
    · generalize meetS x (fromS (IntKind.i64.wrap (v + 1))) = M
      obtain ⟨mb, ml, mh, mm, mr⟩ := M
      have b2 : (v == 9223372036854775807) = false := by simpa using h2
      simp only [h1, beq_self_eq_true, Bool.not_true, cond_false, cond_true, b2, if_true, if_neg h2]
      cases mb <;> by_cases h3 : mh = v <;> by_cases h4 : v = -9223372036854775808 <;> simp [h3, h4, botS, Bool.cond_eq_ite] <;> (by_cases h5 : mh = -9223372036854775808 <;> simp [h5])
  · have b1 : (x.2.1 == v) = false := by simpa using h1
    simp only [cond_false, b1, if_neg h1, hxb, Bool.not_false, cond_true, true_and]
    by_cases h3 : x.2.2.1 = v
    · by_cases h4 : v = -9223372036854775808 <;> simp [h3, h4, botS, Bool.cond_eq_ite]
    · have b3 : (x.2.2.1 == v) = false := by simpa using h3
      rw [b3, if_neg h3, cond_false, ← hxb]
theorem r14_less_ok {v : Int} (hx : NF x) (hxb : x.1 = false) : r14_lessAtEnds.ok x.1 x.2.1 x.2.2.1 x.2.2.2.1 x.2.2.2.2 v = true := r14_less_k _ _ hx hxb
theorem r14_less_s {v : Int} (hx : NF x) (hxb : x.1 = false) : r14_lessAtEnds x.1 x.2.1 x.2.2.1 x.2.2.2.1 x.2.2.2.2 v = lessS x v := r14_less_k _ _ hx hxb
theorem inv_sides1_k {γ : Type} (n : γ) (k : Bool × Int × Int × Int × Int × Bool × Int × Int × Int × Int → γ) (hx : Raw x) (hy : Raw y) : inv_sides1.c n k x.1 x.2.1 x.2.2.1 x.2.2.2.1 x.2.2.2.2 y.1 y.2.1 y.2.2.1 y.2.2.2.1 y.2.2.2.2 = k (ten (meetS x y, meetS x y)) := by
  unfold inv_sides1.c inv_sides1.c0 ten
  simp only [nM_ok hx hy, nM_s hx hy, cond_true]
theorem inv_sides1_ok (hx : Raw x) (hy : Raw y) : inv_sides1.ok x.1 x.2.1 x.2.2.1 x.2.2.2.1 x.2.2.2.2 y.1 y.2.1 y.2.2.1 y.2.2.2.1 y.2.2.2.2 = true := inv_sides1_k _ _ hx hy
theorem inv_sides1_s (hx : Raw x) (hy : Raw y) : inv_sides1 x.1 x.2.1 x.2.2.1 x.2.2.2.1 x.2.2.2.2 y.1 y.2.1 y.2.2.1 y.2.2.2.1 y.2.2.2.2 = ten (meetS x y, meetS x y) := inv_sides1_k _ _ hx hy
theorem inv_sides2_k {γ : Type} (n : γ) (k : Bool × Int × Int × Int × Int × Bool × Int × Int × Int × Int → γ) (hx : NF x) (hy : NF y) (hxb : x.1 = false) (hyb : y.1 = false) : inv_sides2.c n k x.1 x.2.1 x.2.2.1 x.2.2.2.1 x.2.2.2.2 y.1 y.2.1 y.2.2.1 y.2.2.2.1 y.2.2.2.2 = k (ten (wo x y, wo y x)) := by
  unfold inv_sides2.c inv_sides2.c0 ten
  simp only [inv_without_ok hx hy hxb hyb, inv_without_s hx hy hxb hyb, inv_without_ok hy hx hyb hxb, inv_without_s hy hx hyb hxb, cond_true]
theorem inv_sides2_ok (hx : NF x) (hy : NF y) (hxb : x.1 = false) (hyb : y.1 = false) : inv_sides2.ok x.1 x.2.1 x.2.2.1 x.2.2.2.1 x.2.2.2.2 y.1 y.2.1 y.2.2.1 y.2.2.2.1 y.2.2.2.2 = true := inv_sides2_k _ _ hx hy hxb hyb
theorem inv_sides2_s (hx : NF x) (hy : NF y) (hxb : x.1 = false) (hyb : y.1 = false) : inv_sides2 x.1 x.2.1 x.2.2.1 x.2.2.2.1 x.2.2.2.2 y.1 y.2.1 y.2.2.1 y.2.2.2.1 y.2.2.2.2 = ten (wo x y, wo y x) := inv_sides2_k _ _ hx hy hxb hyb
end
end Go.Proofs.YtonpbbhlmapbdaaGreatDoor.V
