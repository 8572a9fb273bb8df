/- Parts: K9, K10, K11, K12. Conditions: none. -/
import Derived.Test.YtonpbbhlmapbdaaGreatDoorKA
import Derived.Test.YtonpbbhlmapbdaaGreatDoorG1
import Derived.Test.YtonpbbhlmapbdaaGreatDoorG2
set_option linter.unusedVariables false
set_option linter.unusedSimpArgs false
namespace Go.Proofs.YtonpbbhlmapbdaaGreatDoor.V
open Go Go.Wk Go.RowKit
theorem raw5 {a0 : Bool} {a1 a2 a3 a4 : Int} (h1 : I64 a1) (h2 : I64 a2) (h3 : U64 a3) (h4 : U64 a4) : Raw (a0, a1, a2, a3, a4) := ⟨h1, h2, h3, h4⟩
theorem Ik (k : Int) (h : -1000 < k ∧ k < 1000) : I64 k := by unfold I64; omega
def ten (p : Nm × Nm) : Bool × Int × Int × Int × Int × Bool × Int × Int × Int × Int := (p.1.1, p.1.2.1, p.1.2.2.1, p.1.2.2.2.1, p.1.2.2.2.2, p.2.1, p.2.2.1, p.2.2.2.1, p.2.2.2.2.1, p.2.2.2.2.2)
def app11 (p : Nm × Nm) (e : Int) : Bool × Int × Int × Int × Int × Bool × Int × Int × Int × Int × Int := (p.1.1, p.1.2.1, p.1.2.2.1, p.1.2.2.2.1, p.1.2.2.2.2, p.2.1, p.2.2.1, p.2.2.2.1, p.2.2.2.2.1, p.2.2.2.2.2, e)
def fromS (v : Int) : Nm := rangeS v 9223372036854775807
def toS (v : Int) : Nm := rangeS (-9223372036854775808) v
theorem from_nf {v : Int} (h : I64 v) : NF (fromS v) := make_nf h Imax U1 U0
theorem to_nf {v : Int} (h : I64 v) : NF (toS v) := make_nf Imin h U1 U0
theorem from_in {v w : Int} (h : I64 v) (hw : I64 w) : In (fromS v) w ↔ v ≤ w := by
  unfold fromS rangeS; rw [make_in h Imax U1 U0 hw]
  unfold I64 at hw
  exact ⟨fun q => q.1.1, fun q => ⟨⟨q, by omega⟩, has_one w⟩⟩
theorem to_in {v w : Int} (h : I64 v) (hw : I64 w) : In (toS v) w ↔ w ≤ v := by
  unfold toS rangeS; rw [make_in Imin h U1 U0 hw]
  unfold I64 at hw
  exact ⟨fun q => q.1.2, fun q => ⟨⟨by omega, q⟩, has_one w⟩⟩
def bothS (p : Nm × Nm) : Nm × Nm := if p.1.1 = true ∨ p.2.1 = true then (botS, botS) else p
noncomputable def ltS (a b : Nm) : Nm × Nm := if b.2.2.1 = -9223372036854775808 ∨ a.2.1 = 9223372036854775807 then (botS, botS) else (meetS a (toS (IntKind.i64.wrap (b.2.2.1 - 1))), meetS b (fromS (IntKind.i64.wrap (a.2.1 + 1))))
noncomputable def leP (a b : Nm) : Nm × Nm := (meetS a (toS b.2.2.1), meetS b (fromS a.2.1))
noncomputable def less1 (a : Nm) (v : Int) : Nm := if a.2.1 = v then (if v = 9223372036854775807 then botS else meetS a (fromS (IntKind.i64.wrap (v + 1)))) else a
noncomputable def less2 (a : Nm) (v : Int) : Nm := if a.1 = false ∧ a.2.2.1 = v then (if v = -9223372036854775808 then botS else meetS a (toS (IntKind.i64.wrap (v - 1)))) else a
noncomputable def lessS (a : Nm) (v : Int) : Nm := less2 (less1 a v) v
noncomputable def wo (a b : Nm) : Nm := if b.2.1 = b.2.2.1 then lessS a b.2.1 else a
section
variable {x y : Nm}
theorem nM_ok (hx : Raw x) (hy : Raw y) : num_Meet.ok x.1 x.2.1 x.2.2.1 x.2.2.2.1 x.2.2.2.2 y.1 y.2.1 y.2.2.1 y.2.2.2.1 y.2.2.2.2 = true := num_Meet_ok hx hy
theorem nM_s (hx : Raw x) (hy : Raw y) : num_Meet x.1 x.2.1 x.2.2.1 x.2.2.2.1 x.2.2.2.2 y.1 y.2.1 y.2.2.1 y.2.2.2.1 y.2.2.2.2 = meetS x y := num_Meet_s hx hy
theorem nN_s (hx : Raw x) : num_Norm x.1 x.2.1 x.2.2.1 x.2.2.2.1 x.2.2.2.2 = normS x := num_Norm_s hx
theorem inv_from_s {v : Int} (h : I64 v) : inv_from v = fromS v := by
  unfold inv_from inv_from.c inv_from.c0; simp only [num_Range_s h Imax, id]; rfl
theorem inv_to_s {v : Int} (h : I64 v) : inv_to v = toS v := by
  unfold inv_to inv_to.c inv_to.c0; simp only [num_Range_s Imin h, id]; rfl
theorem inv_one_s : inv_one x.1 x.2.1 x.2.2.1 x.2.2.2.1 x.2.2.2.2 = (x.2.1, !x.1 && (x.2.1 == x.2.2.1)) := by
  unfold inv_one inv_one.c inv_one.c0; cases x.1 <;> rfl
theorem inv_told_s : inv_told x.1 x.2.1 x.2.2.1 x.2.2.2.1 x.2.2.2.2 y.1 y.2.1 y.2.2.1 y.2.2.2.1 y.2.2.2.2 = ten (bothS (x, y)) := by
  unfold inv_told inv_told.c inv_told.c0 bothS ten
  simp only [num_Bot_s, id]
  cases e1 : x.1 <;> cases e2 : y.1 <;> simp [botS, e1, e2]
theorem inv_below_k {γ : Type} (n : γ) (k : Bool × Int × Int × Int × Int × Bool × Int × Int × Int × Int → γ) (hx : Raw x) (hy : Raw y) : inv_below.c n k x.1 x.2.1 x.2.2.1 x.2.2.2.1 x.2.2.2.2 y.1 y.2.1 y.2.2.1 y.2.2.2.1 y.2.2.2.2 = k (ten (ltS x y)) := by
  unfold inv_below.c inv_below.c0 ltS ten
  simp only [inv_to_s (B.wi_I _), inv_from_s (B.wi_I _), nM_ok hx (to_nf (B.wi_I _)).raw, nM_s hx (to_nf (B.wi_I _)).raw, nM_ok hy (from_nf (B.wi_I _)).raw, nM_s hy (from_nf (B.wi_I _)).raw, num_Bot_s, cond_true]
  by_cases h1 : y.2.2.1 = -9223372036854775808 <;> by_cases h2 : x.2.1 = 9223372036854775807 <;> simp [h1, h2, botS, Bool.cond_eq_ite]
theorem inv_below_ok (hx : Raw x) (hy : Raw y) : inv_below.ok x.1 x.2.1 x.2.2.1 x.2.2.2.1 x.2.2.2.2 y.1 y.2.1 y.2.2.1 y.2.2.2.1 y.2.2.2.2 = true := inv_below_k _ _ hx hy
theorem inv_below_s (hx : Raw x) (hy : Raw y) : inv_below x.1 x.2.1 x.2.2.1 x.2.2.2.1 x.2.2.2.2 y.1 y.2.1 y.2.2.1 y.2.2.2.1 y.2.2.2.2 = ten (ltS x y) := inv_below_k _ _ hx hy
theorem inv_upTo_k {γ : Type} (n : γ) (k : Bool × Int × Int × Int × Int × Bool × Int × Int × Int × Int → γ) (hx : Raw x) (hy : Raw y) : inv_upTo.c n k x.1 x.2.1 x.2.2.1 x.2.2.2.1 x.2.2.2.2 y.1 y.2.1 y.2.2.1 y.2.2.2.1 y.2.2.2.2 = k (ten (leP x y)) := by
  unfold inv_upTo.c inv_upTo.c0 leP ten
  simp only [inv_to_s hy.h, inv_from_s hx.l, nM_ok hx (to_nf hy.h).raw, nM_s hx (to_nf hy.h).raw, nM_ok hy (from_nf hx.l).raw, nM_s hy (from_nf hx.l).raw, cond_true]
theorem inv_upTo_ok (hx : Raw x) (hy : Raw y) : inv_upTo.ok x.1 x.2.1 x.2.2.1 x.2.2.2.1 x.2.2.2.2 y.1 y.2.1 y.2.2.1 y.2.2.2.1 y.2.2.2.2 = true := inv_upTo_k _ _ hx hy
theorem inv_upTo_s (hx : Raw x) (hy : Raw y) : inv_upTo x.1 x.2.1 x.2.2.1 x.2.2.2.1 x.2.2.2.2 y.1 y.2.1 y.2.2.1 y.2.2.2.1 y.2.2.2.2 = ten (leP x y) := inv_upTo_k _ _ hx hy
theorem inv_without_k {γ : Type} (n : γ) (k : Nm → γ) (hx : NF x) (hy : NF y) (hxb : x.1 = false) (hyb : y.1 = false) : inv_without.c n k x.1 x.2.1 x.2.2.1 x.2.2.2.1 x.2.2.2.2 y.1 y.2.1 y.2.2.1 y.2.2.2.1 y.2.2.2.2 = k (wo x y) := by
  have rx := hx.raw
  have m1 := meet_nf rx (from_nf (B.wi_I (y.2.1 + 1))).raw
  unfold inv_without.c inv_without.c0 wo lessS less1 less2
  simp only [inv_one_s]
  simp only [inv_to_s (B.wi_I _), inv_from_s (B.wi_I _), nM_ok rx (to_nf (B.wi_I _)).raw, nM_s rx (to_nf (B.wi_I _)).raw, nM_ok rx (from_nf (B.wi_I _)).raw, nM_s rx (from_nf (B.wi_I _)).raw, nM_ok m1.raw (to_nf (B.wi_I _)).raw, nM_s m1.raw (to_nf (B.wi_I _)).raw, num_Bot_s, cond_true]
  simp only [hxb, hyb, Bool.not_false, Bool.true_and]
  by_cases h0 : y.2.1 = y.2.2.1
  · by_cases h1 : x.2.1 = y.2.1
    · by_cases h2 : y.2.1 = 9223372036854775807
      · have : ¬ (9223372036854775807 : Int) = -9223372036854775808 := by decide
        simp [← h0, h1, h2, botS]
      · generalize meetS x (fromS (IntKind.i64.wrap (y.2.1 + 1))) = M
        rw [← h0] at *
        obtain ⟨mb, ml, mh, mm, mr⟩ := M
        have b2 : (y.2.1 == 9223372036854775807) = false := by simpa using h2
        simp only [h1, beq_self_eq_true, Bool.not_true, cond_false, cond_true, b2, if_true, if_neg h2]
        cases mb <;> by_cases h3 : mh = y.2.1 <;> by_cases h4 : y.2.1 = -9223372036854775808 <;> simp [h3, h4, botS, Bool.cond_eq_ite] <;> (by_cases h5 : mh = -9223372036854775808 <;> simp [h5])
    · have b1 : (x.2.1 == y.2.1) = false := by simpa using h1
      rw [← h0]
      simp only [beq_self_eq_true, Bool.not_true, cond_false, b1, if_neg h1, if_true, hxb, Bool.not_false, cond_true, true_and]
      by_cases h3 : x.2.2.1 = y.2.1
      · by_cases h4 : y.2.1 = -9223372036854775808 <;> simp [h3, h4, botS, Bool.cond_eq_ite]
      · have b3 : (x.2.2.1 == y.2.1) = false := by simpa using h3
        rw [b3, if_neg h3, cond_false, ← hxb]
  · have b0 : (y.2.1 == y.2.2.1) = false := by simpa using h0
    rw [b0, if_neg h0, Bool.not_false, cond_true, ← hxb]
theorem inv_without_ok (hx : NF x) (hy : NF y) (hxb : x.1 = false) (hyb : y.1 = false) : inv_without.ok x.1 x.2.1 x.2.2.1 x.2.2.2.1 x.2.2.2.2 y.1 y.2.1 y.2.2.1 y.2.2.2.1 y.2.2.2.2 = true := inv_without_k _ _ hx hy hxb hyb
theorem inv_without_s (hx : NF x) (hy : NF y) (hxb : x.1 = false) (hyb : y.1 = false) : inv_without x.1 x.2.1 x.2.2.1 x.2.2.2.1 x.2.2.2.2 y.1 y.2.1 y.2.2.1 y.2.2.2.1 y.2.2.2.2 = wo x y := inv_without_k _ _ hx hy hxb hyb
theorem inv_sides1_k {γ : Type} (n : γ) (k : Bool × Int × Int × Int × Int × Bool × Int × Int × Int × Int → γ) (hx : Raw x) (hy : Raw y) : inv_sides1.c n k x.1 x.2.1 x.2.2.1 x.2.2.2.1 x.2.2.2.2 y.1 y.2.1 y.2.2.1 y.2.2.2.1 y.2.2.2.2 = k (ten (meetS x y, meetS x y)) := by
  unfold inv_sides1.c inv_sides1.c0 ten
  simp only [nM_ok hx hy, nM_s hx hy, cond_true]
theorem inv_sides1_ok (hx : Raw x) (hy : Raw y) : inv_sides1.ok x.1 x.2.1 x.2.2.1 x.2.2.2.1 x.2.2.2.2 y.1 y.2.1 y.2.2.1 y.2.2.2.1 y.2.2.2.2 = true := inv_sides1_k _ _ hx hy
theorem inv_sides1_s (hx : Raw x) (hy : Raw y) : inv_sides1 x.1 x.2.1 x.2.2.1 x.2.2.2.1 x.2.2.2.2 y.1 y.2.1 y.2.2.1 y.2.2.2.1 y.2.2.2.2 = ten (meetS x y, meetS x y) := inv_sides1_k _ _ hx hy
theorem inv_sides2_k {γ : Type} (n : γ) (k : Bool × Int × Int × Int × Int × Bool × Int × Int × Int × Int → γ) (hx : NF x) (hy : NF y) (hxb : x.1 = false) (hyb : y.1 = false) : inv_sides2.c n k x.1 x.2.1 x.2.2.1 x.2.2.2.1 x.2.2.2.2 y.1 y.2.1 y.2.2.1 y.2.2.2.1 y.2.2.2.2 = k (ten (wo x y, wo y x)) := by
  unfold inv_sides2.c inv_sides2.c0 ten
  simp only [inv_without_ok hx hy hxb hyb, inv_without_s hx hy hxb hyb, inv_without_ok hy hx hyb hxb, inv_without_s hy hx hyb hxb, cond_true]
theorem inv_sides2_ok (hx : NF x) (hy : NF y) (hxb : x.1 = false) (hyb : y.1 = false) : inv_sides2.ok x.1 x.2.1 x.2.2.1 x.2.2.2.1 x.2.2.2.2 y.1 y.2.1 y.2.2.1 y.2.2.2.1 y.2.2.2.2 = true := inv_sides2_k _ _ hx hy hxb hyb
theorem inv_sides2_s (hx : NF x) (hy : NF y) (hxb : x.1 = false) (hyb : y.1 = false) : inv_sides2 x.1 x.2.1 x.2.2.1 x.2.2.2.1 x.2.2.2.2 y.1 y.2.1 y.2.2.1 y.2.2.2.1 y.2.2.2.2 = ten (wo x y, wo y x) := inv_sides2_k _ _ hx hy hxb hyb
end
def isCmp (op : Int) : Prop := op = 8 ∨ op = 9 ∨ op = 10 ∨ op = 11 ∨ op = 12 ∨ op = 13
instance (op : Int) : Decidable (isCmp op) := inferInstanceAs (Decidable (_ ∨ _))
def negO (op : Int) : Int := if op = 8 then 11 else if op = 9 then 10 else if op = 10 then 9 else if op = 11 then 8 else if op = 12 then 13 else 12
noncomputable def cmpN (op : Int) (a b : Nm) : Nm × Nm := if op = 8 then ltS a b else if op = 9 then leP a b else if op = 10 then ((ltS b a).2, (ltS b a).1) else if op = 11 then ((leP b a).2, (leP b a).1) else if op = 12 then (meetS a b, meetS a b) else (wo a b, wo b a)
noncomputable def cmpS (op : Int) (a b : Nm) : Nm × Nm := if (normS a).1 = true ∨ (normS b).1 = true then (botS, botS) else bothS (cmpN op (normS a) (normS b))
section
variable {x y : Nm}
end
theorem o1 : isOp 1 := by decide
theorem o4 : isOp 4 := by decide
theorem app_at {a0 b0 : Bool} {a1 a2 a3 a4 b1 b2 b3 b4 op : Int} (h : Raw (a0, a1, a2, a3, a4)) (h' : Raw (b0, b1, b2, b3, b4)) (o : isOp op) {x : Nm} (e : applyS op (a0, a1, a2, a3, a4) (b0, b1, b2, b3, b4) = x) :
    num_Apply op a0 a1 a2 a3 a4 b0 b1 b2 b3 b4 = (x.1, x.2.1, x.2.2.1, x.2.2.2.1, x.2.2.2.2, 0) := by
  rw [num_Apply_s h h', if_pos o, e]; rfl
theorem inv_Negate_s (op : Int) : inv_Negate op = if isCmp op then (negO op, 0) else (0, 1) := by
  unfold inv_Negate inv_Negate.c negO isCmp
  by_cases h1 : op = 8
  · subst h1; rfl
  by_cases h2 : op = 9
  · subst h2; rfl
  by_cases h3 : op = 10
  · subst h3; rfl
  by_cases h4 : op = 11
  · subst h4; rfl
  by_cases h5 : op = 12
  · subst h5; rfl
  by_cases h6 : op = 13
  · subst h6; rfl
  simp [Bool.cond_eq_ite, h1, h2, h3, h4, h5, h6]
theorem ten_app (p : Nm × Nm) (e : Int) : ((ten p).1, (ten p).2.1, (ten p).2.2.1, (ten p).2.2.2.1, (ten p).2.2.2.2.1, (ten p).2.2.2.2.2.1, (ten p).2.2.2.2.2.2.1, (ten p).2.2.2.2.2.2.2.1, (ten p).2.2.2.2.2.2.2.2.1, (ten p).2.2.2.2.2.2.2.2.2, e) = app11 p e := rfl
section
variable {x y z : Nm}
theorem told_ten (p : Nm × Nm) : inv_told (ten p).1 (ten p).2.1 (ten p).2.2.1 (ten p).2.2.2.1 (ten p).2.2.2.2.1 (ten p).2.2.2.2.2.1 (ten p).2.2.2.2.2.2.1 (ten p).2.2.2.2.2.2.2.1 (ten p).2.2.2.2.2.2.2.2.1 (ten p).2.2.2.2.2.2.2.2.2 = ten (bothS p) := inv_told_s (x := p.1) (y := p.2)
theorem turned_ten (p : Nm × Nm) : inv_turned (ten p).1 (ten p).2.1 (ten p).2.2.1 (ten p).2.2.2.1 (ten p).2.2.2.2.1 (ten p).2.2.2.2.2.1 (ten p).2.2.2.2.2.2.1 (ten p).2.2.2.2.2.2.2.1 (ten p).2.2.2.2.2.2.2.2.1 (ten p).2.2.2.2.2.2.2.2.2 = ten (p.2, p.1) := rfl
theorem inv_Compare_k {γ : Type} (n : γ) (k : Bool × Int × Int × Int × Int × Bool × Int × Int × Int × Int × Int → γ) {op : Int} (hx : Raw x) (hy : Raw y) :
    inv_Compare.c n k op x.1 x.2.1 x.2.2.1 x.2.2.2.1 x.2.2.2.2 y.1 y.2.1 y.2.2.1 y.2.2.2.1 y.2.2.2.2 = k (if isCmp op then app11 (cmpS op x y) 0 else app11 (botS, botS) 1) := by
  unfold inv_Compare.c inv_Compare.c0 cmpS
  have nX := norm_nf hx
  have nY := norm_nf hy
  simp only [nN_s hx, nN_s hy, num_Bot_s]
  generalize normS x = X at *
  generalize normS y = Y at *
  have rX := nX.raw
  have rY := nY.raw
  by_cases hop : isCmp op
  · rw [if_pos hop]
    by_cases hX : X.1 = true
    · rcases hop with rfl | rfl | rfl | rfl | rfl | rfl <;> simp [hX, app11, botS]
    by_cases hY : Y.1 = true
    · rcases hop with rfl | rfl | rfl | rfl | rfl | rfl <;> simp [hX, hY, app11, botS]
    have hX : X.1 = false := by simpa using hX
    have hY : Y.1 = false := by simpa using hY
    rw [if_neg (by simp [hX, hY])]
    simp only [inv_below_ok rX rY, inv_below_s rX rY, inv_below_ok rY rX, inv_below_s rY rX, inv_upTo_ok rX rY, inv_upTo_s rX rY, inv_upTo_ok rY rX, inv_upTo_s rY rX, inv_sides1_ok rX rY, inv_sides1_s rX rY, inv_sides2_ok nX nY hX hY, inv_sides2_s nX nY hX hY, told_ten, turned_ten, ten_app, cond_true]
    simp only [hX, hY, cond_false]
    rcases hop with rfl | rfl | rfl | rfl | rfl | rfl
    · rfl
    · rfl
    · rfl
    · rfl
    · rfl
    · rfl
  · rw [if_neg hop]
    unfold isCmp at hop
    simp only [not_or] at hop
    obtain ⟨h1, h2, h3, h4, h5, h6⟩ := hop
    simp [Bool.cond_eq_ite, h1, h2, h3, h4, h5, h6, app11, botS]
theorem inv_Compare_ok {op : Int} (hx : Raw x) (hy : Raw y) : inv_Compare.ok op x.1 x.2.1 x.2.2.1 x.2.2.2.1 x.2.2.2.2 y.1 y.2.1 y.2.2.1 y.2.2.2.1 y.2.2.2.2 = true := inv_Compare_k _ _ hx hy
theorem inv_Compare_s {op : Int} (hx : Raw x) (hy : Raw y) : inv_Compare op x.1 x.2.1 x.2.2.1 x.2.2.2.1 x.2.2.2.2 y.1 y.2.1 y.2.2.1 y.2.2.2.1 y.2.2.2.2 = if isCmp op then app11 (cmpS op x y) 0 else app11 (botS, botS) 1 := inv_Compare_k _ _ hx hy
theorem inv_does_k {γ : Type} (n : γ) (k : Nm → γ) {op : Int} (o : isOp op) (hx : Raw x) (hy : Raw y) : inv_does.c n k op x.1 x.2.1 x.2.2.1 x.2.2.2.1 x.2.2.2.2 y.1 y.2.1 y.2.2.1 y.2.2.2.1 y.2.2.2.2 = k (applyS op x y) := by
  unfold inv_does.c inv_does.c0
  simp only [num_Apply_ok (op := op) hx hy, app_at hx hy o (x := applyS op x y) rfl, cond_true]
theorem inv_does_ok {op : Int} (o : isOp op) (hx : Raw x) (hy : Raw y) : inv_does.ok op x.1 x.2.1 x.2.2.1 x.2.2.2.1 x.2.2.2.2 y.1 y.2.1 y.2.2.1 y.2.2.2.1 y.2.2.2.2 = true := inv_does_k _ _ o hx hy
theorem inv_does_s {op : Int} (o : isOp op) (hx : Raw x) (hy : Raw y) : inv_does op x.1 x.2.1 x.2.2.1 x.2.2.2.1 x.2.2.2.2 y.1 y.2.1 y.2.2.1 y.2.2.2.1 y.2.2.2.2 = applyS op x y := inv_does_k _ _ o hx hy
noncomputable def addP (a b c : Nm) : Nm × Nm := (meetS a (applyS 4 c b), meetS b (applyS 4 c a))
theorem inv_added_k {γ : Type} (n : γ) (k : Bool × Int × Int × Int × Int × Bool × Int × Int × Int × Int → γ) (hx : Raw x) (hy : Raw y) (hz : Raw z) : inv_added.c n k x.1 x.2.1 x.2.2.1 x.2.2.2.1 x.2.2.2.2 y.1 y.2.1 y.2.2.1 y.2.2.2.1 y.2.2.2.2 z.1 z.2.1 z.2.2.1 z.2.2.2.1 z.2.2.2.2 = k (ten (addP x y z)) := by
  have a := (apply_nf (op := 4) hz hy o4).raw
  have b := (apply_nf (op := 4) hz hx o4).raw
  unfold inv_added.c inv_added.c0 addP ten
  simp only [inv_does_ok o4 hz hy, inv_does_s o4 hz hy, inv_does_ok o4 hz hx, inv_does_s o4 hz hx, nM_ok hx a, nM_s hx a, nM_ok hy b, nM_s hy b, cond_true]
theorem inv_added_ok (hx : Raw x) (hy : Raw y) (hz : Raw z) : inv_added.ok x.1 x.2.1 x.2.2.1 x.2.2.2.1 x.2.2.2.2 y.1 y.2.1 y.2.2.1 y.2.2.2.1 y.2.2.2.2 z.1 z.2.1 z.2.2.1 z.2.2.2.1 z.2.2.2.2 = true := inv_added_k _ _ hx hy hz
theorem inv_added_s (hx : Raw x) (hy : Raw y) (hz : Raw z) : inv_added x.1 x.2.1 x.2.2.1 x.2.2.2.1 x.2.2.2.2 y.1 y.2.1 y.2.2.1 y.2.2.2.1 y.2.2.2.2 z.1 z.2.1 z.2.2.1 z.2.2.2.1 z.2.2.2.2 = ten (addP x y z) := inv_added_k _ _ hx hy hz
end
/-! the fixed facts -/
theorem range_in {a b v : Int} (ha : I64 a) (hb : I64 b) (hv : I64 v) : In (rangeS a b) v ↔ a ≤ v ∧ v ≤ b := by
  unfold rangeS; rw [make_in ha hb U1 U0 hv]
  exact ⟨fun h => h.1, fun h => ⟨h, has_one v⟩⟩
theorem range_nf {a b : Int} (ha : I64 a) (hb : I64 b) : NF (rangeS a b) := make_nf ha hb U1 U0
theorem meet_range {a b c d : Int} (ha : I64 a) (hb : I64 b) (hc : I64 c) (hd : I64 d) {l u : Int} (hl : I64 l) (hu : I64 u) (e1 : max a c = l) (e2 : min b d = u) : meetS (rangeS a b) (rangeS c d) = rangeS l u := by
  refine nf_iff (meet_nf (range_nf ha hb).raw (range_nf hc hd).raw) (range_nf hl hu) fun v hv => ?_
  rw [meet_in (range_nf ha hb).raw (range_nf hc hd).raw hv, range_in ha hb hv, range_in hc hd hv, range_in hl hu hv]
  omega
theorem sub_at (a b c d : Int) (ha : I64 a) (hb : I64 b) (hc : I64 c) (hd : I64 d) (m r m' r' : Int) (nx : NF (false, a, b, m, r)) (ny : NF (false, c, d, m', r')) (hm : m' = 1 ∨ m = 1) (h0 : r = 0 ∧ m = 1 ∨ r' = 0 ∧ m' = 1) (hm1 : m = 0 ∨ m = 1) (hm2 : m' = 0 ∨ m' = 1) (l u : Int) (hl : -1000 < a - d) (hu : b - c < 1000) (el : a - d = l) (eu : b - c = u) :
    applyS 4 (false, a, b, m, r) (false, c, d, m', r') = makeS l u 1 0 := by
  unfold applyS
  rw [norm_fix nx, norm_fix ny]
  have e3 : rhs 4 ((false, c, d, m', r') : Nm) = (false, c, d, m', r') := by unfold rhs; rw [if_neg (by decide)]
  rw [e3, if_neg (by simp)]
  unfold applyN
  simp only [show ¬ (4 : Int) = 1 by decide, show ¬ (4 : Int) = 3 by decide, if_true, if_false]
  have zx := nx.nz rfl
  have zy := ny.nz rfl
  have lx := zx.le
  have ly := zy.le
  simp only at lx ly
  have e4 : A.ival_Sub a b c d = (l, u, true) := by
    rw [A.sub_span ha hb hc hd lx ly]
    unfold A.span_s A.cnt
    have q1 : (a - d + 9223372036854775808) / 18446744073709551616 = 0 := by omega
    have q2 : (b - c + 9223372036854775808) / 18446744073709551616 = 0 := by omega
    rw [q1, q2, if_pos rfl, wi_id (by omega) (by omega), wi_id (by omega) (by omega), el, eu]; rfl
  rw [e4]
  have g : B.gg m m' = 1 := by rcases hm1 with rfl | rfl <;> rcases hm2 with rfl | rfl <;> first | rfl | (exfalso; omega)
  have e5 : B.subS m r m' r' true = (1, 0) := by
    unfold B.subS
    rw [if_neg (by omega), g, B.bm_t (by decide)]
    simp
  show mk4 (l, u, true) (B.subS m r m' r' true) = _
  rw [e5]; rfl
theorem taken_k {γ : Type} (n : γ) (k : Bool → γ) : law_taken.c n k = k true := by
  have i := fun (a : Int) (h : -1000 < a ∧ a < 1000) => Ik a h
  have n0 := range_nf (i 0 (by decide)) (i 10 (by decide))
  have n1 := range_nf (i 1 (by decide)) (i 2 (by decide))
  have n5 : NF (constS 5) := .one (i 5 (by decide))
  have n9 := range_nf (i 0 (by decide)) (i 9 (by decide))
  have n6 := range_nf (i 0 (by decide)) (i 5 (by decide))
  have c5 : constS 5 = (false, 5, 5, 0, 5) := by decide +kernel
  have c1 : rangeS 1 2 = (false, 1, 2, 1, 0) := by decide +kernel
  have c0 : rangeS 0 10 = (false, 0, 10, 1, 0) := by decide +kernel
  have p1 : applyS 4 (constS 5) (rangeS 1 2) = rangeS 3 4 := by
    rw [c5] at n5 ⊢; rw [c1] at n1 ⊢
    exact sub_at 5 5 1 2 (i 5 (by decide)) (i 5 (by decide)) (i 1 (by decide)) (i 2 (by decide)) 0 5 1 0 n5 n1 (.inl rfl) (.inr ⟨rfl, rfl⟩) (.inl rfl) (.inr rfl) 3 4 (by decide) (by decide) (by decide) (by decide)
  have p2 : applyS 4 (constS 5) (rangeS 0 10) = rangeS (-5) 5 := by
    rw [c5] at n5 ⊢; rw [c0] at n0 ⊢
    exact sub_at 5 5 0 10 (i 5 (by decide)) (i 5 (by decide)) (i 0 (by decide)) (i 10 (by decide)) 0 5 1 0 n5 n0 (.inl rfl) (.inr ⟨rfl, rfl⟩) (.inl rfl) (.inr rfl) (-5) 5 (by decide) (by decide) (by decide) (by decide)
  have s1 : bothS (addP (rangeS 0 10) (rangeS 1 2) (constS 5)) = (rangeS 3 4, rangeS 1 2) := by
    unfold addP
    rw [p1, p2, meet_range (l := 3) (u := 4) (i 0 (by decide)) (i 10 (by decide)) (i 3 (by decide)) (i 4 (by decide)) (i 3 (by decide)) (i 4 (by decide)) (by decide) (by decide),
      meet_range (l := 1) (u := 2) (i 1 (by decide)) (i 2 (by decide)) (i (-5) (by decide)) (i 5 (by decide)) (i 1 (by decide)) (i 2 (by decide)) (by decide) (by decide)]
    decide +kernel
  have s2 : cmpS 8 (rangeS 0 9) (rangeS 0 5) = (rangeS 0 4, rangeS 1 5) := by
    unfold cmpS
    have e1 : normS (rangeS 0 9) = rangeS 0 9 := norm_fix n9
    have e2 : normS (rangeS 0 5) = rangeS 0 5 := norm_fix n6
    rw [e1, e2, if_neg (by decide +kernel)]
    unfold cmpN ltS
    have f1 : IntKind.i64.wrap ((rangeS 0 5).2.2.1 - 1) = 4 := by decide +kernel
    have f2 : IntKind.i64.wrap ((rangeS 0 9).2.1 + 1) = 1 := by decide +kernel
    rw [if_pos rfl, if_neg (by decide +kernel), f1, f2]
    unfold toS fromS
    rw [meet_range (l := 0) (u := 4) (i 0 (by decide)) (i 9 (by decide)) Imin (i 4 (by decide)) (i 0 (by decide)) (i 4 (by decide)) (by decide) (by decide),
      meet_range (l := 1) (u := 5) (i 0 (by decide)) (i 5 (by decide)) (i 1 (by decide)) Imax (i 1 (by decide)) (i 5 (by decide)) (by decide) (by decide)]
    decide +kernel
  have o8 : isCmp 8 := by decide
  have q0 : num_Norm (rangeS 0 10).1 (rangeS 0 10).2.1 (rangeS 0 10).2.2.1 (rangeS 0 10).2.2.2.1 (rangeS 0 10).2.2.2.2 = rangeS 0 10 := (nN_s n0.raw).trans (norm_fix n0)
  have q1 : num_Norm (rangeS 1 2).1 (rangeS 1 2).2.1 (rangeS 1 2).2.2.1 (rangeS 1 2).2.2.2.1 (rangeS 1 2).2.2.2.2 = rangeS 1 2 := (nN_s n1.raw).trans (norm_fix n1)
  have q5 : num_Norm (constS 5).1 (constS 5).2.1 (constS 5).2.2.1 (constS 5).2.2.2.1 (constS 5).2.2.2.2 = constS 5 := (nN_s n5.raw).trans (norm_fix n5)
  have ao := inv_added_ok (x := rangeS 0 10) (y := rangeS 1 2) (z := constS 5) n0.raw n1.raw n5.raw
  have aS := inv_added_s (x := rangeS 0 10) (y := rangeS 1 2) (z := constS 5) n0.raw n1.raw n5.raw
  have b0 : (rangeS 0 10).1 = false := by decide +kernel
  have b1 : (rangeS 1 2).1 = false := by decide +kernel
  have b5 : (constS 5).1 = false := rfl
  have co : inv_Compare.ok 8 (rangeS 0 9).1 (rangeS 0 9).2.1 (rangeS 0 9).2.2.1 (rangeS 0 9).2.2.2.1 (rangeS 0 9).2.2.2.2 (rangeS 0 5).1 (rangeS 0 5).2.1 (rangeS 0 5).2.2.1 (rangeS 0 5).2.2.2.1 (rangeS 0 5).2.2.2.2 = true := inv_Compare_ok n9.raw n6.raw
  have cs : inv_Compare 8 (rangeS 0 9).1 (rangeS 0 9).2.1 (rangeS 0 9).2.2.1 (rangeS 0 9).2.2.2.1 (rangeS 0 9).2.2.2.2 (rangeS 0 5).1 (rangeS 0 5).2.1 (rangeS 0 5).2.2.1 (rangeS 0 5).2.2.2.1 (rangeS 0 5).2.2.2.2 = app11 (rangeS 0 4, rangeS 1 5) 0 := (inv_Compare_s n9.raw n6.raw).trans (by rw [if_pos o8, s2])
  unfold law_taken.c law_taken.c0
  simp only [nref_Range_ok (i 0 (by decide)) (i 10 (by decide)), nref_Range_s (i 0 (by decide)) (i 10 (by decide)), nref_Range_ok (i 1 (by decide)) (i 2 (by decide)), nref_Range_s (i 1 (by decide)) (i 2 (by decide)), nref_Range_ok (i 0 (by decide)) (i 9 (by decide)), nref_Range_s (i 0 (by decide)) (i 9 (by decide)), nref_Range_ok (i 0 (by decide)) (i 5 (by decide)), nref_Range_s (i 0 (by decide)) (i 5 (by decide)), nref_Range_ok (i 3 (by decide)) (i 4 (by decide)), nref_Range_s (i 3 (by decide)) (i 4 (by decide)), nref_Range_ok (i 0 (by decide)) (i 4 (by decide)), nref_Range_s (i 0 (by decide)) (i 4 (by decide)), nref_Range_ok (i 1 (by decide)) (i 5 (by decide)), nref_Range_s (i 1 (by decide)) (i 5 (by decide)), nref_Const_s, q0, q1, q5, ao, aS, told_ten, s1, co, cs, inv_Negate_s, if_pos o8, app11, beq_self_eq_true, bne_self_eq_false, cond_true, cond_false, Bool.true_or, Bool.or_true, Bool.true_and, Bool.and_true, Bool.not_true, Bool.not_false]
  simp only [ten, b0, b1, b5, cond_true, cond_false, Bool.true_or, Bool.or_true, Bool.true_and, Bool.and_true, beq_self_eq_true]
  rfl
theorem taken_ok : law_taken.ok = true := taken_k _ _
theorem taken_s : law_taken = true := taken_k _ _
def holdsP (op x y : Int) : Prop := if op = 8 then x < y else if op = 9 then x ≤ y else if op = 10 then x > y else if op = 11 then x ≥ y else if op = 12 then x = y else op = 13 ∧ x ≠ y
instance (op x y : Int) : Decidable (holdsP op x y) := by unfold holdsP; infer_instance
theorem holds_s (op x y : Int) : law_holds op x y = decide (holdsP op x y) := by
  unfold law_holds law_holds.c holdsP
  (try unfold law_holds.c0)
  by_cases h1 : op = 8
  · subst h1; rfl
  by_cases h2 : op = 9
  · subst h2; rfl
  by_cases h3 : op = 10
  · subst h3; rfl
  by_cases h4 : op = 11
  · subst h4; rfl
  by_cases h5 : op = 12
  · subst h5
    simp only [show ((12 : Int) == 8) = false from rfl, show ((12 : Int) == 9) = false from rfl, show ((12 : Int) == 10) = false from rfl, show ((12 : Int) == 11) = false from rfl, show ((12 : Int) == 12) = true from rfl, cond_true, cond_false, id, show ¬ (12 : Int) = 8 by decide, show ¬ (12 : Int) = 9 by decide, show ¬ (12 : Int) = 10 by decide, show ¬ (12 : Int) = 11 by decide, if_false, if_true]
    rfl
  by_cases h6 : op = 13
  · subst h6
    have e : (x == y) = decide (x = y) := by rw [Bool.eq_iff_iff]; simp
    simp [bne, e]
  simp [Bool.cond_eq_ite, h1, h2, h3, h4, h5, h6]
theorem less1_nf {a : Nm} (n : NF a) {v : Int} (hv : I64 v) : NF (less1 a v) := by
  unfold less1
  split
  · split
    · exact .bot
    · exact meet_nf n.raw (from_nf (B.wi_I _)).raw
  · exact n
theorem less2_nf {a : Nm} (n : NF a) {v : Int} (hv : I64 v) : NF (less2 a v) := by
  unfold less2
  split
  · split
    · exact .bot
    · exact meet_nf n.raw (to_nf (B.wi_I _)).raw
  · exact n
theorem lessS_nf {a : Nm} (n : NF a) {v : Int} (hv : I64 v) : NF (lessS a v) := less2_nf (less1_nf n hv) hv
theorem less1_sub {a : Nm} (n : NF a) (v : Int) : Sub (less1 a v) a := by
  unfold less1
  split
  · split
    · exact bot_sub _ rfl
    · exact fun w hw i => ((meet_in n.raw (from_nf (B.wi_I _)).raw hw).1 i).1
  · exact Sub.rfl' a
theorem less2_sub {a : Nm} (n : NF a) (v : Int) : Sub (less2 a v) a := by
  unfold less2
  split
  · split
    · exact bot_sub _ rfl
    · exact fun w hw i => ((meet_in n.raw (to_nf (B.wi_I _)).raw hw).1 i).1
  · exact Sub.rfl' a
theorem lessS_sub {a : Nm} (n : NF a) {v : Int} (hv : I64 v) : Sub (lessS a v) a := (less2_sub (less1_nf n hv) v).trans (less1_sub n v)
theorem less1_keep {a : Nm} (n : NF a) {v w : Int} (hv : I64 v) (hw : I64 w) (i : In a w) (h : w ≠ v) : In (less1 a v) w := by
  unfold less1
  split
  · rename_i e
    have b := i.2.1
    unfold I64 at hv hw
    rw [if_neg (by omega)]
    refine (meet_in n.raw (from_nf (B.wi_I _)).raw hw).2 ⟨i, (from_in (B.wi_I _) hw).2 ?_⟩
    rw [wi_id (by omega) (by omega)]; omega
  · exact i
theorem less2_keep {a : Nm} (n : NF a) {v w : Int} (hv : I64 v) (hw : I64 w) (i : In a w) (h : w ≠ v) : In (less2 a v) w := by
  unfold less2
  split
  · rename_i e
    have b := i.2.1
    unfold I64 at hv hw
    rw [if_neg (by omega)]
    refine (meet_in n.raw (to_nf (B.wi_I _)).raw hw).2 ⟨i, (to_in (B.wi_I _) hw).2 ?_⟩
    rw [wi_id (by omega) (by omega)]; omega
  · exact i
theorem wo_nf {a b : Nm} (n : NF a) (n' : NF b) : NF (wo a b) := by
  unfold wo; split
  · exact lessS_nf n n'.raw.l
  · exact n
theorem wo_sub {a b : Nm} (n : NF a) (n' : NF b) : Sub (wo a b) a := by
  unfold wo; split
  · exact lessS_sub n n'.raw.l
  · exact Sub.rfl' a
theorem wo_keep {a b : Nm} (n : NF a) (n' : NF b) {v w : Int} (hv : I64 v) (hw : I64 w) (i : In a v) (j : In b w) (h : v ≠ w) : In (wo a b) v := by
  unfold wo; split
  · rename_i e
    have q := j.2.1
    have : w = b.2.1 := by omega
    subst this
    exact less2_keep (less1_nf n hw) hw hv (less1_keep n hw hv i h) h
  · exact i
theorem cmpN_spec {op : Int} (o : isCmp op) {a b : Nm} (n : NF a) (n' : NF b) : (NF (cmpN op a b).1 ∧ NF (cmpN op a b).2) ∧ (Sub (cmpN op a b).1 a ∧ Sub (cmpN op a b).2 b) ∧
    ∀ v w, I64 v → I64 w → In a v → In b w → holdsP op v w → In (cmpN op a b).1 v ∧ In (cmpN op a b).2 w := by
  have lt : ∀ {a b : Nm}, NF a → NF b → (NF (ltS a b).1 ∧ NF (ltS a b).2) ∧ (Sub (ltS a b).1 a ∧ Sub (ltS a b).2 b) ∧ ∀ v w, I64 v → I64 w → In a v → In b w → v < w → In (ltS a b).1 v ∧ In (ltS a b).2 w := by
    intro a b n n'
    unfold ltS
    by_cases h : b.2.2.1 = -9223372036854775808 ∨ a.2.1 = 9223372036854775807
    · rw [if_pos h]
      refine ⟨⟨.bot, .bot⟩, ⟨bot_sub _ rfl, bot_sub _ rfl⟩, fun v w hv hw i j hl => ?_⟩
      have p := i.2.1
      have q := j.2.1
      unfold I64 at hv hw
      omega
    · rw [if_neg h]
      refine ⟨⟨meet_nf n.raw (to_nf (B.wi_I _)).raw, meet_nf n'.raw (from_nf (B.wi_I _)).raw⟩, ⟨fun u hu i => ((meet_in n.raw (to_nf (B.wi_I _)).raw hu).1 i).1, fun u hu i => ((meet_in n'.raw (from_nf (B.wi_I _)).raw hu).1 i).1⟩, fun v w hv hw i j hl => ?_⟩
      have p := i.2.1
      have q := j.2.1
      have r1 := n.raw.l
      have r2 := n'.raw.h
      refine ⟨(meet_in n.raw (to_nf (B.wi_I _)).raw hv).2 ⟨i, (to_in (B.wi_I _) hv).2 ?_⟩, (meet_in n'.raw (from_nf (B.wi_I _)).raw hw).2 ⟨j, (from_in (B.wi_I _) hw).2 ?_⟩⟩
      · unfold I64 at r1 r2 hv hw; rw [wi_id (by omega) (by omega)]; omega
      · unfold I64 at r1 r2 hv hw; rw [wi_id (by omega) (by omega)]; omega
  have le : ∀ {a b : Nm}, NF a → NF b → (NF (leP a b).1 ∧ NF (leP a b).2) ∧ (Sub (leP a b).1 a ∧ Sub (leP a b).2 b) ∧ ∀ v w, I64 v → I64 w → In a v → In b w → v ≤ w → In (leP a b).1 v ∧ In (leP a b).2 w := by
    intro a b n n'
    unfold leP
    refine ⟨⟨meet_nf n.raw (to_nf n'.raw.h).raw, meet_nf n'.raw (from_nf n.raw.l).raw⟩, ⟨fun u hu i => ((meet_in n.raw (to_nf n'.raw.h).raw hu).1 i).1, fun u hu i => ((meet_in n'.raw (from_nf n.raw.l).raw hu).1 i).1⟩, fun v w hv hw i j hl => ?_⟩
    have p := i.2.1
    have q := j.2.1
    exact ⟨(meet_in n.raw (to_nf n'.raw.h).raw hv).2 ⟨i, (to_in n'.raw.h hv).2 (by omega)⟩, (meet_in n'.raw (from_nf n.raw.l).raw hw).2 ⟨j, (from_in n.raw.l hw).2 (by omega)⟩⟩
  rcases o with rfl | rfl | rfl | rfl | rfl | rfl
  · have h := lt n n'
    exact ⟨h.1, h.2.1, fun v w hv hw i j hh => h.2.2 v w hv hw i j hh⟩
  · have h := le n n'
    exact ⟨h.1, h.2.1, fun v w hv hw i j hh => h.2.2 v w hv hw i j hh⟩
  · have h := lt n' n
    exact ⟨⟨h.1.2, h.1.1⟩, ⟨h.2.1.2, h.2.1.1⟩, fun v w hv hw i j hh => (h.2.2 w v hw hv j i hh).symm⟩
  · have h := le n' n
    exact ⟨⟨h.1.2, h.1.1⟩, ⟨h.2.1.2, h.2.1.1⟩, fun v w hv hw i j hh => (h.2.2 w v hw hv j i hh).symm⟩
  · have m := meet_nf n.raw n'.raw
    refine ⟨⟨m, m⟩, ⟨fun u hu i => ((meet_in n.raw n'.raw hu).1 i).1, fun u hu i => ((meet_in n.raw n'.raw hu).1 i).2⟩, fun v w hv hw i j hh => ?_⟩
    have e : v = w := hh
    subst e
    exact ⟨(meet_in n.raw n'.raw hv).2 ⟨i, j⟩, (meet_in n.raw n'.raw hv).2 ⟨i, j⟩⟩
  · refine ⟨⟨wo_nf n n', wo_nf n' n⟩, ⟨wo_sub n n', wo_sub n' n⟩, fun v w hv hw i j hh => ?_⟩
    have e : v ≠ w := hh.2
    exact ⟨wo_keep n n' hv hw i j e, wo_keep n' n hw hv j i (Ne.symm e)⟩
theorem both_nf {p : Nm × Nm} (h : NF p.1 ∧ NF p.2) : NF (bothS p).1 ∧ NF (bothS p).2 := by
  unfold bothS; split
  · exact ⟨.bot, .bot⟩
  · exact h
theorem both_sub {p : Nm × Nm} {a b : Nm} (h : Sub p.1 a ∧ Sub p.2 b) : Sub (bothS p).1 a ∧ Sub (bothS p).2 b := by
  unfold bothS; split
  · exact ⟨bot_sub _ rfl, bot_sub _ rfl⟩
  · exact h
theorem both_keep {p : Nm × Nm} {v w : Int} (h : In p.1 v ∧ In p.2 w) : In (bothS p).1 v ∧ In (bothS p).2 w := by
  unfold bothS
  rw [if_neg (by rw [h.1.1, h.2.1]; simp)]
  exact h
theorem cmp_spec {op : Int} (o : isCmp op) {a b : Nm} (ha : Raw a) (hb : Raw b) : (NF (cmpS op a b).1 ∧ NF (cmpS op a b).2) ∧ (Sub (cmpS op a b).1 a ∧ Sub (cmpS op a b).2 b) ∧
    ∀ v w, I64 v → I64 w → In a v → In b w → holdsP op v w → In (cmpS op a b).1 v ∧ In (cmpS op a b).2 w := by
  have h := cmpN_spec o (norm_nf ha) (norm_nf hb)
  unfold cmpS
  by_cases hc : (normS a).1 = true ∨ (normS b).1 = true
  · rw [if_pos hc]
    refine ⟨⟨.bot, .bot⟩, ⟨bot_sub _ rfl, bot_sub _ rfl⟩, fun v w hv hw i j _ => ?_⟩
    have p := ((norm_in ha hv).2 i).1
    have q := ((norm_in hb hw).2 j).1
    rw [p, q] at hc
    simp at hc
  · rw [if_neg hc]
    refine ⟨both_nf h.1, both_sub ⟨h.2.1.1.trans (norm_sub ha).1, h.2.1.2.trans (norm_sub hb).1⟩, fun v w hv hw i j hh => both_keep (h.2.2 v w hv hw ((norm_in ha hv).2 i) ((norm_in hb hw).2 j) hh)⟩
end Go.Proofs.YtonpbbhlmapbdaaGreatDoor.V
