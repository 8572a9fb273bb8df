/- Parts: K9, K10, M6, M7, M8, M9, M10, M11. Conditions: none. -/
import Derived.Test.YtonpbbhlmapbdaaGreatDoorMA
set_option linter.unusedVariables false
set_option linter.unusedSimpArgs false
set_option maxHeartbeats 4000000
namespace Go.Proofs.YtonpbbhlmapbdaaGreatDoor.V
open Go Go.Wk Go.RowKit
theorem raw5 {a0 : Bool} {a1 a2 a3 a4 : Int} (h1 : I64 a1) (h2 : I64 a2) (h3 : U64 a3) (h4 : U64 a4) : Raw (a0, a1, a2, a3, a4) := ⟨h1, h2, h3, h4⟩
theorem Ik (k : Int) (h : -1000 < k ∧ k < 1000) : I64 k := by unfold I64; omega
def ten (p : Nm × Nm) : Bool × Int × Int × Int × Int × Bool × Int × Int × Int × Int := (p.1.1, p.1.2.1, p.1.2.2.1, p.1.2.2.2.1, p.1.2.2.2.2, p.2.1, p.2.2.1, p.2.2.2.1, p.2.2.2.2.1, p.2.2.2.2.2)
def app11 (p : Nm × Nm) (e : Int) : Bool × Int × Int × Int × Int × Bool × Int × Int × Int × Int × Int := (p.1.1, p.1.2.1, p.1.2.2.1, p.1.2.2.2.1, p.1.2.2.2.2, p.2.1, p.2.2.1, p.2.2.2.1, p.2.2.2.2.1, p.2.2.2.2.2, e)
def fromS (v : Int) : Nm := rangeS v 9223372036854775807
def toS (v : Int) : Nm := rangeS (-9223372036854775808) v
theorem from_nf {v : Int} (h : I64 v) : NF (fromS v) := make_nf h Imax U1 U0
theorem to_nf {v : Int} (h : I64 v) : NF (toS v) := make_nf Imin h U1 U0
theorem from_in {v w : Int} (h : I64 v) (hw : I64 w) : In (fromS v) w ↔ v ≤ w := by
  unfold fromS rangeS; rw [make_in h Imax U1 U0 hw]
  unfold I64 at hw
  exact ⟨fun q => q.1.1, fun q => ⟨⟨q, by omega⟩, has_one w⟩⟩
theorem to_in {v w : Int} (h : I64 v) (hw : I64 w) : In (toS v) w ↔ w ≤ v := by
  unfold toS rangeS; rw [make_in Imin h U1 U0 hw]
  unfold I64 at hw
  exact ⟨fun q => q.1.2, fun q => ⟨⟨by omega, q⟩, has_one w⟩⟩
def bothS (p : Nm × Nm) : Nm × Nm := if p.1.1 = true ∨ p.2.1 = true then (botS, botS) else p
noncomputable def ltS (a b : Nm) : Nm × Nm := if b.2.2.1 = -9223372036854775808 ∨ a.2.1 = 9223372036854775807 then (botS, botS) else (meetS a (toS (IntKind.i64.wrap (b.2.2.1 - 1))), meetS b (fromS (IntKind.i64.wrap (a.2.1 + 1))))
noncomputable def leP (a b : Nm) : Nm × Nm := (meetS a (toS b.2.2.1), meetS b (fromS a.2.1))
noncomputable def less1 (a : Nm) (v : Int) : Nm := if a.2.1 = v then (if v = 9223372036854775807 then botS else meetS a (fromS (IntKind.i64.wrap (v + 1)))) else a
noncomputable def less2 (a : Nm) (v : Int) : Nm := if a.1 = false ∧ a.2.2.1 = v then (if v = -9223372036854775808 then botS else meetS a (toS (IntKind.i64.wrap (v - 1)))) else a
noncomputable def lessS (a : Nm) (v : Int) : Nm := less2 (less1 a v) v
noncomputable def wo (a b : Nm) : Nm := if b.2.1 = b.2.2.1 then lessS a b.2.1 else a
section
variable {x y : Nm}
theorem nM_ok (hx : Raw x) (hy : Raw y) : num_Meet.ok x.1 x.2.1 x.2.2.1 x.2.2.2.1 x.2.2.2.2 y.1 y.2.1 y.2.2.1 y.2.2.2.1 y.2.2.2.2 = true := num_Meet_ok hx hy
theorem nM_s (hx : Raw x) (hy : Raw y) : num_Meet x.1 x.2.1 x.2.2.1 x.2.2.2.1 x.2.2.2.2 y.1 y.2.1 y.2.2.1 y.2.2.2.1 y.2.2.2.2 = meetS x y := num_Meet_s hx hy
theorem nN_s (hx : Raw x) : num_Norm x.1 x.2.1 x.2.2.1 x.2.2.2.1 x.2.2.2.2 = normS x := num_Norm_s hx
theorem inv_from_s {v : Int} (h : I64 v) : inv_from v = fromS v := by
  unfold inv_from inv_from.c inv_from.c0; simp only [num_Range_s h Imax, id]; rfl
theorem inv_to_s {v : Int} (h : I64 v) : inv_to v = toS v := by
  unfold inv_to inv_to.c inv_to.c0; simp only [num_Range_s Imin h, id]; rfl
theorem inv_one_s : inv_one x.1 x.2.1 x.2.2.1 x.2.2.2.1 x.2.2.2.2 = (x.2.1, !x.1 && (x.2.1 == x.2.2.1)) := by
  unfold inv_one inv_one.c inv_one.c0; cases x.1 <;> rfl
theorem inv_told_s : inv_told x.1 x.2.1 x.2.2.1 x.2.2.2.1 x.2.2.2.2 y.1 y.2.1 y.2.2.1 y.2.2.2.1 y.2.2.2.2 = ten (bothS (x, y)) := by
  unfold inv_told inv_told.c inv_told.c0 bothS ten
  simp only [num_Bot_s, id]
  cases e1 : x.1 <;> cases e2 : y.1 <;> simp [botS, e1, e2]
theorem inv_below_k {γ : Type} (n : γ) (k : Bool × Int × Int × Int × Int × Bool × Int × Int × Int × Int → γ) (hx : Raw x) (hy : Raw y) : inv_below.c n k x.1 x.2.1 x.2.2.1 x.2.2.2.1 x.2.2.2.2 y.1 y.2.1 y.2.2.1 y.2.2.2.1 y.2.2.2.2 = k (ten (ltS x y)) := by
  unfold inv_below.c inv_below.c0 ltS ten
  simp only [inv_to_s (B.wi_I _), inv_from_s (B.wi_I _), nM_ok hx (to_nf (B.wi_I _)).raw, nM_s hx (to_nf (B.wi_I _)).raw, nM_ok hy (from_nf (B.wi_I _)).raw, nM_s hy (from_nf (B.wi_I _)).raw, num_Bot_s, cond_true]
  by_cases h1 : y.2.2.1 = -9223372036854775808 <;> by_cases h2 : x.2.1 = 9223372036854775807 <;> simp [h1, h2, botS, Bool.cond_eq_ite]
theorem inv_below_ok (hx : Raw x) (hy : Raw y) : inv_below.ok x.1 x.2.1 x.2.2.1 x.2.2.2.1 x.2.2.2.2 y.1 y.2.1 y.2.2.1 y.2.2.2.1 y.2.2.2.2 = true := inv_below_k _ _ hx hy
theorem inv_below_s (hx : Raw x) (hy : Raw y) : inv_below x.1 x.2.1 x.2.2.1 x.2.2.2.1 x.2.2.2.2 y.1 y.2.1 y.2.2.1 y.2.2.2.1 y.2.2.2.2 = ten (ltS x y) := inv_below_k _ _ hx hy
theorem inv_upTo_k {γ : Type} (n : γ) (k : Bool × Int × Int × Int × Int × Bool × Int × Int × Int × Int → γ) (hx : Raw x) (hy : Raw y) : inv_upTo.c n k x.1 x.2.1 x.2.2.1 x.2.2.2.1 x.2.2.2.2 y.1 y.2.1 y.2.2.1 y.2.2.2.1 y.2.2.2.2 = k (ten (leP x y)) := by
  unfold inv_upTo.c inv_upTo.c0 leP ten
  simp only [inv_to_s hy.h, inv_from_s hx.l, nM_ok hx (to_nf hy.h).raw, nM_s hx (to_nf hy.h).raw, nM_ok hy (from_nf hx.l).raw, nM_s hy (from_nf hx.l).raw, cond_true]
theorem inv_upTo_ok (hx : Raw x) (hy : Raw y) : inv_upTo.ok x.1 x.2.1 x.2.2.1 x.2.2.2.1 x.2.2.2.2 y.1 y.2.1 y.2.2.1 y.2.2.2.1 y.2.2.2.2 = true := inv_upTo_k _ _ hx hy
theorem inv_upTo_s (hx : Raw x) (hy : Raw y) : inv_upTo x.1 x.2.1 x.2.2.1 x.2.2.2.1 x.2.2.2.2 y.1 y.2.1 y.2.2.1 y.2.2.2.1 y.2.2.2.2 = ten (leP x y) := inv_upTo_k _ _ hx hy
theorem inv_without_k {γ : Type} (n : γ) (k : Nm → γ) (hx : NF x) (hy : NF y) (hxb : x.1 = false) (hyb : y.1 = false) : inv_without.c n k x.1 x.2.1 x.2.2.1 x.2.2.2.1 x.2.2.2.2 y.1 y.2.1 y.2.2.1 y.2.2.2.1 y.2.2.2.2 = k (wo x y) := by
  have rx := hx.raw
  have m1 := meet_nf rx (from_nf (B.wi_I (y.2.1 + 1))).raw
  unfold inv_without.c inv_without.c0 wo lessS less1 less2
  simp only [inv_one_s]
  simp only [inv_to_s (B.wi_I _), inv_from_s (B.wi_I _), nM_ok rx (to_nf (B.wi_I _)).raw, nM_s rx (to_nf (B.wi_I _)).raw, nM_ok rx (from_nf (B.wi_I _)).raw, nM_s rx (from_nf (B.wi_I _)).raw, nM_ok m1.raw (to_nf (B.wi_I _)).raw, nM_s m1.raw (to_nf (B.wi_I _)).raw, num_Bot_s, cond_true]
  simp only [hxb, hyb, Bool.not_false, Bool.true_and]
  by_cases h0 : y.2.1 = y.2.2.1
  · by_cases h1 : x.2.1 = y.2.1
    · by_cases h2 : y.2.1 = 9223372036854775807
      · have : ¬ (9223372036854775807 : Int) = -9223372036854775808 := by decide
        simp [← h0, h1, h2, botS]
      · generalize meetS x (fromS (IntKind.i64.wrap (y.2.1 + 1))) = M
        rw [← h0] at *
        obtain ⟨mb, ml, mh, mm, mr⟩ := M
        have b2 : (y.2.1 == 9223372036854775807) = false := by simpa using h2
        simp only [h1, beq_self_eq_true, Bool.not_true, cond_false, cond_true, b2, if_true, if_neg h2]
        cases mb <;> by_cases h3 : mh = y.2.1 <;> by_cases h4 : y.2.1 = -9223372036854775808 <;> simp [h3, h4, botS, Bool.cond_eq_ite] <;> (by_cases h5 : mh = -9223372036854775808 <;> simp [h5])
    · have b1 : (x.2.1 == y.2.1) = false := by simpa using h1
      rw [← h0]
      simp only [beq_self_eq_true, Bool.not_true, cond_false, b1, if_neg h1, if_true, hxb, Bool.not_false, cond_true, true_and]
      by_cases h3 : x.2.2.1 = y.2.1
      · by_cases h4 : y.2.1 = -9223372036854775808 <;> simp [h3, h4, botS, Bool.cond_eq_ite]
      · have b3 : (x.2.2.1 == y.2.1) = false := by simpa using h3
        rw [b3, if_neg h3, cond_false, ← hxb]
  · have b0 : (y.2.1 == y.2.2.1) = false := by simpa using h0
    rw [b0, if_neg h0, Bool.not_false, cond_true, ← hxb]
theorem inv_without_ok (hx : NF x) (hy : NF y) (hxb : x.1 = false) (hyb : y.1 = false) : inv_without.ok x.1 x.2.1 x.2.2.1 x.2.2.2.1 x.2.2.2.2 y.1 y.2.1 y.2.2.1 y.2.2.2.1 y.2.2.2.2 = true := inv_without_k _ _ hx hy hxb hyb
theorem inv_without_s (hx : NF x) (hy : NF y) (hxb : x.1 = false) (hyb : y.1 = false) : inv_without x.1 x.2.1 x.2.2.1 x.2.2.2.1 x.2.2.2.2 y.1 y.2.1 y.2.2.1 y.2.2.2.1 y.2.2.2.2 = wo x y := inv_without_k _ _ hx hy hxb hyb
theorem inv_sides1_k {γ : Type} (n : γ) (k : Bool × Int × Int × Int × Int × Bool × Int × Int × Int × Int → γ) (hx : Raw x) (hy : Raw y) : inv_sides1.c n k x.1 x.2.1 x.2.2.1 x.2.2.2.1 x.2.2.2.2 y.1 y.2.1 y.2.2.1 y.2.2.2.1 y.2.2.2.2 = k (ten (meetS x y, meetS x y)) := by
  unfold inv_sides1.c inv_sides1.c0 ten
  simp only [nM_ok hx hy, nM_s hx hy, cond_true]
theorem inv_sides1_ok (hx : Raw x) (hy : Raw y) : inv_sides1.ok x.1 x.2.1 x.2.2.1 x.2.2.2.1 x.2.2.2.2 y.1 y.2.1 y.2.2.1 y.2.2.2.1 y.2.2.2.2 = true := inv_sides1_k _ _ hx hy
theorem inv_sides1_s (hx : Raw x) (hy : Raw y) : inv_sides1 x.1 x.2.1 x.2.2.1 x.2.2.2.1 x.2.2.2.2 y.1 y.2.1 y.2.2.1 y.2.2.2.1 y.2.2.2.2 = ten (meetS x y, meetS x y) := inv_sides1_k _ _ hx hy
theorem inv_sides2_k {γ : Type} (n : γ) (k : Bool × Int × Int × Int × Int × Bool × Int × Int × Int × Int → γ) (hx : NF x) (hy : NF y) (hxb : x.1 = false) (hyb : y.1 = false) : inv_sides2.c n k x.1 x.2.1 x.2.2.1 x.2.2.2.1 x.2.2.2.2 y.1 y.2.1 y.2.2.1 y.2.2.2.1 y.2.2.2.2 = k (ten (wo x y, wo y x)) := by
  unfold inv_sides2.c inv_sides2.c0 ten
  simp only [inv_without_ok hx hy hxb hyb, inv_without_s hx hy hxb hyb, inv_without_ok hy hx hyb hxb, inv_without_s hy hx hyb hxb, cond_true]
theorem inv_sides2_ok (hx : NF x) (hy : NF y) (hxb : x.1 = false) (hyb : y.1 = false) : inv_sides2.ok x.1 x.2.1 x.2.2.1 x.2.2.2.1 x.2.2.2.2 y.1 y.2.1 y.2.2.1 y.2.2.2.1 y.2.2.2.2 = true := inv_sides2_k _ _ hx hy hxb hyb
theorem inv_sides2_s (hx : NF x) (hy : NF y) (hxb : x.1 = false) (hyb : y.1 = false) : inv_sides2 x.1 x.2.1 x.2.2.1 x.2.2.2.1 x.2.2.2.2 y.1 y.2.1 y.2.2.1 y.2.2.2.1 y.2.2.2.2 = ten (wo x y, wo y x) := inv_sides2_k _ _ hx hy hxb hyb
end
def isCmp (op : Int) : Prop := op = 8 ∨ op = 9 ∨ op = 10 ∨ op = 11 ∨ op = 12 ∨ op = 13
instance (op : Int) : Decidable (isCmp op) := inferInstanceAs (Decidable (_ ∨ _))
def negO (op : Int) : Int := if op = 8 then 11 else if op = 9 then 10 else if op = 10 then 9 else if op = 11 then 8 else if op = 12 then 13 else 12
noncomputable def cmpN (op : Int) (a b : Nm) : Nm × Nm := if op = 8 then ltS a b else if op = 9 then leP a b else if op = 10 then ((ltS b a).2, (ltS b a).1) else if op = 11 then ((leP b a).2, (leP b a).1) else if op = 12 then (meetS a b, meetS a b) else (wo a b, wo b a)
noncomputable def cmpS (op : Int) (a b : Nm) : Nm × Nm := if (normS a).1 = true ∨ (normS b).1 = true then (botS, botS) else bothS (cmpN op (normS a) (normS b))
section
variable {x y : Nm}
end
theorem app_at {a0 b0 : Bool} {a1 a2 a3 a4 b1 b2 b3 b4 op : Int} (h : Raw (a0, a1, a2, a3, a4)) (h' : Raw (b0, b1, b2, b3, b4)) (o : isOp op) {x : Nm} (e : applyS op (a0, a1, a2, a3, a4) (b0, b1, b2, b3, b4) = x) :
    num_Apply op a0 a1 a2 a3 a4 b0 b1 b2 b3 b4 = (x.1, x.2.1, x.2.2.1, x.2.2.2.1, x.2.2.2.2, 0) := by
  rw [num_Apply_s h h', if_pos o, e]; rfl
theorem i64and1 {v : Int} (h : I64 v) : andI .i64 v 1 = v % 2 := by
  rw [andI_eq, wi_eq]
  have e : IntKind.i64.bits = 64 := rfl
  rw [BitVec.toNat_and, BitVec.toNat_ofInt, BitVec.toNat_ofInt, e]
  have e1 : ((1 : Int) % ((2 ^ 64 : Nat) : Int)).toNat = 1 := by decide
  rw [e1, Nat.and_one_is_mod]
  unfold I64 at h
  omega
def low4 (p q r s : Int) : Int := if s < (if r < (if q < p then q else p) then r else (if q < p then q else p)) then s else (if r < (if q < p then q else p) then r else (if q < p then q else p))
def top4 (p q r s : Int) : Int := if (if (if p < q then q else p) < r then r else (if p < q then q else p)) < s then s else (if (if p < q then q else p) < r then r else (if p < q then q else p))
theorem low4_le (p q r s : Int) : low4 p q r s ≤ p ∧ low4 p q r s ≤ q ∧ low4 p q r s ≤ r ∧ low4 p q r s ≤ s ∧ (low4 p q r s = p ∨ low4 p q r s = q ∨ low4 p q r s = r ∨ low4 p q r s = s) := by
  unfold low4; (repeat' split) <;> omega
theorem top4_ge (p q r s : Int) : p ≤ top4 p q r s ∧ q ≤ top4 p q r s ∧ r ≤ top4 p q r s ∧ s ≤ top4 p q r s ∧ (top4 p q r s = p ∨ top4 p q r s = q ∨ top4 p q r s = r ∨ top4 p q r s = s) := by
  unfold top4; (repeat' split) <;> omega
def fits4 (p q r s : Int) : Prop := A.fit p ∧ A.fit q ∧ A.fit r ∧ A.fit s
instance (p q r s : Int) : Decidable (fits4 p q r s) := inferInstanceAs (Decidable (_ ∧ _))
theorem fits_low (p q r s : Int) : (A.fit (low4 p q r s) ∧ A.fit (top4 p q r s)) ↔ fits4 p q r s := by
  obtain ⟨a1, a2, a3, a4, a5⟩ := low4_le p q r s
  obtain ⟨b1, b2, b3, b4, b5⟩ := top4_ge p q r s
  unfold fits4 A.fit
  constructor
  · rintro ⟨⟨h1, h2⟩, h3, h4⟩; omega
  · rintro ⟨⟨h1, h2⟩, ⟨h3, h4⟩, ⟨h5, h6⟩, h7, h8⟩
    constructor
    · rcases a5 with e | e | e | e <;> rw [e] <;> omega
    · rcases b5 with e | e | e | e <;> rw [e] <;> omega
/-- the four products of the ends -/
def lowP (x y : Nm) : Int := low4 (x.2.1 * y.2.1) (x.2.1 * y.2.2.1) (x.2.2.1 * y.2.1) (x.2.2.1 * y.2.2.1)
def topP (x y : Nm) : Int := top4 (x.2.1 * y.2.1) (x.2.1 * y.2.2.1) (x.2.2.1 * y.2.1) (x.2.2.1 * y.2.2.1)
def fitP (x y : Nm) : Prop := fits4 (x.2.1 * y.2.1) (x.2.1 * y.2.2.1) (x.2.2.1 * y.2.1) (x.2.2.1 * y.2.2.1)
instance (x y : Nm) : Decidable (fitP x y) := inferInstanceAs (Decidable (fits4 _ _ _ _))
section
variable {x y z : Nm}
theorem inv_does_k {γ : Type} (n : γ) (k : Nm → γ) {op : Int} (o : isOp op) (hx : Raw x) (hy : Raw y) : inv_does.c n k op x.1 x.2.1 x.2.2.1 x.2.2.2.1 x.2.2.2.2 y.1 y.2.1 y.2.2.1 y.2.2.2.1 y.2.2.2.2 = k (applyS op x y) := by
  unfold inv_does.c inv_does.c0
  simp only [num_Apply_ok (op := op) hx hy, app_at hx hy o (x := applyS op x y) rfl, cond_true]
theorem inv_does_ok {op : Int} (o : isOp op) (hx : Raw x) (hy : Raw y) : inv_does.ok op x.1 x.2.1 x.2.2.1 x.2.2.2.1 x.2.2.2.2 y.1 y.2.1 y.2.2.1 y.2.2.2.1 y.2.2.2.2 = true := inv_does_k _ _ o hx hy
theorem inv_does_s {op : Int} (o : isOp op) (hx : Raw x) (hy : Raw y) : inv_does op x.1 x.2.1 x.2.2.1 x.2.2.2.1 x.2.2.2.2 y.1 y.2.1 y.2.2.1 y.2.2.2.1 y.2.2.2.2 = applyS op x y := inv_does_k _ _ o hx hy
theorem nzn_s (h : Raw x) : num_NonZero x.1 x.2.1 x.2.2.1 x.2.2.2.1 x.2.2.2.2 = nzS x := num_NonZero_s h
theorem nhas_s {v : Int} (h : Raw x) (hv : I64 v) : num_Has x.1 x.2.1 x.2.2.1 x.2.2.2.1 x.2.2.2.2 v = decide (In x v) := num_Has_s h hv
theorem inv_corners_s (hx : Raw x) (hy : Raw y) : inv_corners x.1 x.2.1 x.2.2.1 x.2.2.2.1 x.2.2.2.2 y.1 y.2.1 y.2.2.1 y.2.2.2.1 y.2.2.2.2 = (A.hi (lowP x y), A.lo (lowP x y), A.hi (topP x y), A.lo (topP x y)) := by
  unfold inv_corners inv_corners.c inv_corners.c0
  simp only [inv_product_s hx.l hy.l, inv_product_s hx.l hy.h, inv_product_s hx.h hy.l, inv_product_s hx.h hy.h, inv_wless_s, A.bif_hi, A.bif_lo, id]
  rfl
def oddOne (y : Nm) : Prop := y.2.1 = y.2.2.1 ∧ y.2.1 % 2 = 1
instance (y : Nm) : Decidable (oddOne y) := inferInstanceAs (Decidable (_ ∧ _))
noncomputable def fac1 (x y z : Nm) : Nm := if oddOne y then meetS x (applyS 5 z (constS (inv_inverse y.2.1))) else x
noncomputable def facS (x y z : Nm) : Nm := if fitP x y ∧ ¬ In y 0 then meetS (fac1 x y z) (applyS 6 z y) else fac1 x y z
theorem fac1_nf (hx : NF x) (hy : Raw y) (hz : Raw z) : NF (fac1 x y z) := by
  unfold fac1
  split
  · rename_i h
    exact meet_nf hx.raw (apply_nf (op := 5) hz (raw_const (inverse_spec hy.l h.2).1) (by decide)).raw
  · exact hx
theorem inv_factor_k {γ : Type} (n : γ) (k : Nm → γ) (hx : NF x) (hy : Raw y) (hz : Raw z) (by' : y.1 = false) : inv_factor.c n k x.1 x.2.1 x.2.2.1 x.2.2.2.1 x.2.2.2.2 y.1 y.2.1 y.2.2.1 y.2.2.2.1 y.2.2.2.2 z.1 z.2.1 z.2.2.1 z.2.2.2.1 z.2.2.2.2 = k (facS x y z) := by
  unfold inv_factor.c inv_factor.c0 facS
  simp only [inv_one_s, inv_corners_s hx.raw hy, inv_fits_s, nhas_s hy I0]
  have a6 := (apply_nf (op := 6) hz hy (by decide)).raw
  have f1 := fac1_nf hx hy hz
  have hf : (bif decide (A.fit (lowP x y)) then decide (A.fit (topP x y)) else false) = decide (fitP x y) := by
    have q := fits_low (x.2.1 * y.2.1) (x.2.1 * y.2.2.1) (x.2.2.1 * y.2.1) (x.2.2.1 * y.2.2.1)
    by_cases c : fitP x y
    · rw [decide_eq_true c]; have w := q.2 c; rw [decide_eq_true (show A.fit (lowP x y) from w.1), decide_eq_true (show A.fit (topP x y) from w.2)]; rfl
    · rw [decide_eq_false c]
      by_cases d : A.fit (lowP x y)
      · rw [decide_eq_true d, cond_true, decide_eq_false (show ¬ A.fit (topP x y) from fun d2 => c (q.1 ⟨d, d2⟩))]
      · rw [decide_eq_false d, cond_false]
  simp only [hf, i64and1 hy.l]
  unfold fac1 at f1 ⊢
  by_cases o : oddOne y
  · have I := (inverse_spec hy.l o.2).1
    have a5 := (apply_nf (op := 5) hz (raw_const I) (by decide)).raw
    have m := meet_nf hx.raw a5
    have e1 : (bif (!y.1 && (y.2.1 == y.2.2.1)) then y.2.1 % 2 == 1 else false) = true := by rw [by', o.2]; simp [o.1]
    simp only [e1, cond_true, num_Const_s I, inv_does_ok (op := 5) (by decide) hz (raw_const I), inv_does_s (op := 5) (by decide) hz (raw_const I), nM_ok hx.raw a5, nM_s hx.raw a5, inv_does_ok (op := 6) (by decide) hz hy, inv_does_s (op := 6) (by decide) hz hy, nM_ok m.raw a6, nM_s m.raw a6, if_pos o]
    by_cases c : fitP x y
    · by_cases d : In y 0
      · rw [decide_eq_true c, decide_eq_true d, if_neg (fun q => q.2 d)]; rfl
      · rw [decide_eq_true c, decide_eq_false d, if_pos ⟨c, d⟩]; rfl
    · rw [decide_eq_false c, if_neg (fun q => c q.1)]; rfl
  · have e1 : (bif (!y.1 && (y.2.1 == y.2.2.1)) then y.2.1 % 2 == 1 else false) = false := by
      rw [by']
      by_cases e : y.2.1 = y.2.2.1
      · have : ¬ y.2.1 % 2 = 1 := fun q => o ⟨e, q⟩
        simp [this]
      · simp [e]
    simp only [e1, cond_true, cond_false, inv_does_ok (op := 6) (by decide) hz hy, inv_does_s (op := 6) (by decide) hz hy, nM_ok hx.raw a6, nM_s hx.raw a6, if_neg o]
    by_cases c : fitP x y
    · by_cases d : In y 0
      · rw [decide_eq_true c, decide_eq_true d, if_neg (fun q => q.2 d)]; rfl
      · rw [decide_eq_true c, decide_eq_false d, if_pos ⟨c, d⟩]; rfl
    · rw [decide_eq_false c, if_neg (fun q => c q.1)]; rfl
theorem inv_factor_ok (hx : NF x) (hy : Raw y) (hz : Raw z) (by' : y.1 = false) : inv_factor.ok x.1 x.2.1 x.2.2.1 x.2.2.2.1 x.2.2.2.2 y.1 y.2.1 y.2.2.1 y.2.2.2.1 y.2.2.2.2 z.1 z.2.1 z.2.2.1 z.2.2.2.1 z.2.2.2.2 = true := inv_factor_k _ _ hx hy hz by'
theorem inv_factor_s (hx : NF x) (hy : Raw y) (hz : Raw z) (by' : y.1 = false) : inv_factor x.1 x.2.1 x.2.2.1 x.2.2.2.1 x.2.2.2.2 y.1 y.2.1 y.2.2.1 y.2.2.2.1 y.2.2.2.2 z.1 z.2.1 z.2.2.1 z.2.2.2.1 z.2.2.2.2 = facS x y z := inv_factor_k _ _ hx hy hz by'
end
section
variable {x y z : Nm}
end
noncomputable def timesX (x z : Nm) : Nm := if In z 0 then x else nzS x
noncomputable def timesP (x y z : Nm) : Nm × Nm := if (timesX x z).1 = true ∨ (timesX y z).1 = true then (timesX x z, timesX y z) else (facS (timesX x z) (timesX y z) z, facS (timesX y z) (timesX x z) z)
theorem timesX_nf {x z : Nm} (hx : NF x) : NF (timesX x z) := by unfold timesX; split; exact hx; exact nz_nf hx.raw
section
variable {x y z : Nm}
theorem inv_factors_k {γ : Type} (n : γ) (k : _ → γ) (hx : NF x) (hy : NF y) (hz : Raw z) : inv_factors.c n k x.1 x.2.1 x.2.2.1 x.2.2.2.1 x.2.2.2.2 y.1 y.2.1 y.2.2.1 y.2.2.2.1 y.2.2.2.2 z.1 z.2.1 z.2.2.1 z.2.2.2.1 z.2.2.2.2 = k (ten (timesP x y z)) := by
  unfold inv_factors.c inv_factors.c0 timesP timesX
  have nx := nz_nf hx.raw
  have ny := nz_nf hy.raw
  simp only [nhas_s hz I0, nzn_s hx.raw, nzn_s hy.raw]
  by_cases c : In z 0
  · simp only [decide_eq_true c, Bool.not_true, cond_false, if_pos c]
    by_cases e : x.1 = true ∨ y.1 = true
    · have e1 : (bif x.1 then true else y.1) = true := by rcases e with e | e <;> rw [e] <;> cases x.1 <;> rfl
      rw [e1, if_pos e]; rfl
    · have ex : x.1 = false := by cases h : x.1 <;> simp_all
      have ey : y.1 = false := by cases h : y.1 <;> simp_all
      have e1 : (bif x.1 then true else y.1) = false := by rw [ex, ey]; rfl
      rw [if_neg e, e1]
      simp only [inv_factor_ok hx hy.raw hz ey, inv_factor_ok hy hx.raw hz ex, inv_factor_s hx hy.raw hz ey, inv_factor_s hy hx.raw hz ex, cond_true, cond_false]
      rfl
  · simp only [decide_eq_false c, Bool.not_false, cond_true, if_neg c]
    by_cases e : (nzS x).1 = true ∨ (nzS y).1 = true
    · have e1 : (bif (nzS x).1 then true else (nzS y).1) = true := by rcases e with e | e <;> rw [e] <;> cases (nzS x).1 <;> rfl
      rw [e1, if_pos e]; rfl
    · have ex : (nzS x).1 = false := by cases h : (nzS x).1 <;> simp_all
      have ey : (nzS y).1 = false := by cases h : (nzS y).1 <;> simp_all
      have e1 : (bif (nzS x).1 then true else (nzS y).1) = false := by rw [ex, ey]; rfl
      rw [if_neg e, e1]
      simp only [inv_factor_ok nx ny.raw hz ey, inv_factor_ok ny nx.raw hz ex, inv_factor_s nx ny.raw hz ey, inv_factor_s ny nx.raw hz ex, cond_true, cond_false]
      rfl
end
theorem o1 : isOp 1 := by decide
theorem o3 : isOp 3 := by decide
theorem o4 : isOp 4 := by decide
theorem o5 : isOp 5 := by decide
theorem o6 : isOp 6 := by decide
theorem ten_app (p : Nm × Nm) (e : Int) : ((ten p).1, (ten p).2.1, (ten p).2.2.1, (ten p).2.2.2.1, (ten p).2.2.2.2.1, (ten p).2.2.2.2.2.1, (ten p).2.2.2.2.2.2.1, (ten p).2.2.2.2.2.2.2.1, (ten p).2.2.2.2.2.2.2.2.1, (ten p).2.2.2.2.2.2.2.2.2, e) = app11 p e := rfl
section
variable {x y z : Nm}
theorem told_ten (p : Nm × Nm) : inv_told (ten p).1 (ten p).2.1 (ten p).2.2.1 (ten p).2.2.2.1 (ten p).2.2.2.2.1 (ten p).2.2.2.2.2.1 (ten p).2.2.2.2.2.2.1 (ten p).2.2.2.2.2.2.2.1 (ten p).2.2.2.2.2.2.2.2.1 (ten p).2.2.2.2.2.2.2.2.2 = ten (bothS p) := inv_told_s (x := p.1) (y := p.2)
noncomputable def negP (a c : Nm) : Nm × Nm := (meetS a (applyS 1 c c), topS)
noncomputable def addP (a b c : Nm) : Nm × Nm := (meetS a (applyS 4 c b), meetS b (applyS 4 c a))
noncomputable def subP (a b c : Nm) : Nm × Nm := (meetS a (applyS 3 c b), meetS b (applyS 4 a c))
theorem inv_negated_k {γ : Type} (n : γ) (k : Bool × Int × Int × Int × Int × Bool × Int × Int × Int × Int → γ) (hx : Raw x) (hy : Raw y) (hz : Raw z) : inv_negated.c n k x.1 x.2.1 x.2.2.1 x.2.2.2.1 x.2.2.2.2 y.1 y.2.1 y.2.2.1 y.2.2.2.1 y.2.2.2.2 z.1 z.2.1 z.2.2.1 z.2.2.2.1 z.2.2.2.2 = k (ten (negP x z)) := by
  have a := (apply_nf (op := 1) hz hz o1).raw
  unfold inv_negated.c inv_negated.c0 negP ten
  simp only [inv_does_ok o1 hz hz, inv_does_s o1 hz hz, nM_ok hx a, nM_s hx a, num_Top_s, cond_true]
theorem inv_negated_ok (hx : Raw x) (hy : Raw y) (hz : Raw z) : inv_negated.ok x.1 x.2.1 x.2.2.1 x.2.2.2.1 x.2.2.2.2 y.1 y.2.1 y.2.2.1 y.2.2.2.1 y.2.2.2.2 z.1 z.2.1 z.2.2.1 z.2.2.2.1 z.2.2.2.2 = true := inv_negated_k _ _ hx hy hz
theorem inv_negated_s (hx : Raw x) (hy : Raw y) (hz : Raw z) : inv_negated x.1 x.2.1 x.2.2.1 x.2.2.2.1 x.2.2.2.2 y.1 y.2.1 y.2.2.1 y.2.2.2.1 y.2.2.2.2 z.1 z.2.1 z.2.2.1 z.2.2.2.1 z.2.2.2.2 = ten (negP x z) := inv_negated_k _ _ hx hy hz
theorem inv_added_k {γ : Type} (n : γ) (k : Bool × Int × Int × Int × Int × Bool × Int × Int × Int × Int → γ) (hx : Raw x) (hy : Raw y) (hz : Raw z) : inv_added.c n k x.1 x.2.1 x.2.2.1 x.2.2.2.1 x.2.2.2.2 y.1 y.2.1 y.2.2.1 y.2.2.2.1 y.2.2.2.2 z.1 z.2.1 z.2.2.1 z.2.2.2.1 z.2.2.2.2 = k (ten (addP x y z)) := by
  have a := (apply_nf (op := 4) hz hy o4).raw
  have b := (apply_nf (op := 4) hz hx o4).raw
  unfold inv_added.c inv_added.c0 addP ten
  simp only [inv_does_ok o4 hz hy, inv_does_s o4 hz hy, inv_does_ok o4 hz hx, inv_does_s o4 hz hx, nM_ok hx a, nM_s hx a, nM_ok hy b, nM_s hy b, cond_true]
theorem inv_added_ok (hx : Raw x) (hy : Raw y) (hz : Raw z) : inv_added.ok x.1 x.2.1 x.2.2.1 x.2.2.2.1 x.2.2.2.2 y.1 y.2.1 y.2.2.1 y.2.2.2.1 y.2.2.2.2 z.1 z.2.1 z.2.2.1 z.2.2.2.1 z.2.2.2.2 = true := inv_added_k _ _ hx hy hz
theorem inv_added_s (hx : Raw x) (hy : Raw y) (hz : Raw z) : inv_added x.1 x.2.1 x.2.2.1 x.2.2.2.1 x.2.2.2.2 y.1 y.2.1 y.2.2.1 y.2.2.2.1 y.2.2.2.2 z.1 z.2.1 z.2.2.1 z.2.2.2.1 z.2.2.2.2 = ten (addP x y z) := inv_added_k _ _ hx hy hz
theorem inv_less_k {γ : Type} (n : γ) (k : Bool × Int × Int × Int × Int × Bool × Int × Int × Int × Int → γ) (hx : Raw x) (hy : Raw y) (hz : Raw z) : inv_less.c n k x.1 x.2.1 x.2.2.1 x.2.2.2.1 x.2.2.2.2 y.1 y.2.1 y.2.2.1 y.2.2.2.1 y.2.2.2.2 z.1 z.2.1 z.2.2.1 z.2.2.2.1 z.2.2.2.2 = k (ten (subP x y z)) := by
  have a := (apply_nf (op := 3) hz hy o3).raw
  have b := (apply_nf (op := 4) hx hz o4).raw
  unfold inv_less.c inv_less.c0 subP ten
  simp only [inv_does_ok o3 hz hy, inv_does_s o3 hz hy, inv_does_ok o4 hx hz, inv_does_s o4 hx hz, nM_ok hx a, nM_s hx a, nM_ok hy b, nM_s hy b, cond_true]
theorem inv_less_ok (hx : Raw x) (hy : Raw y) (hz : Raw z) : inv_less.ok x.1 x.2.1 x.2.2.1 x.2.2.2.1 x.2.2.2.2 y.1 y.2.1 y.2.2.1 y.2.2.2.1 y.2.2.2.2 z.1 z.2.1 z.2.2.1 z.2.2.2.1 z.2.2.2.2 = true := inv_less_k _ _ hx hy hz
theorem inv_less_s (hx : Raw x) (hy : Raw y) (hz : Raw z) : inv_less x.1 x.2.1 x.2.2.1 x.2.2.2.1 x.2.2.2.2 y.1 y.2.1 y.2.2.1 y.2.2.2.1 y.2.2.2.2 z.1 z.2.1 z.2.2.1 z.2.2.2.1 z.2.2.2.2 = ten (subP x y z) := inv_less_k _ _ hx hy hz
theorem inv_factors_ok (hx : NF x) (hy : NF y) (hz : Raw z) : inv_factors.ok x.1 x.2.1 x.2.2.1 x.2.2.2.1 x.2.2.2.2 y.1 y.2.1 y.2.2.1 y.2.2.2.1 y.2.2.2.2 z.1 z.2.1 z.2.2.1 z.2.2.2.1 z.2.2.2.2 = true := inv_factors_k _ _ hx hy hz
theorem inv_factors_s (hx : NF x) (hy : NF y) (hz : Raw z) : inv_factors x.1 x.2.1 x.2.2.1 x.2.2.2.1 x.2.2.2.2 y.1 y.2.1 y.2.2.1 y.2.2.2.1 y.2.2.2.2 z.1 z.2.1 z.2.2.1 z.2.2.2.1 z.2.2.2.2 = ten (timesP x y z) := inv_factors_k _ _ hx hy hz
end
theorem hi_w {w : Int} (h : U64 w) : A.hi w = 0 := by unfold A.hi U64 at *; omega
theorem lo_w {w : Int} (h : U64 w) : A.lo w = w := by unfold A.lo U64 at *; omega
theorem W_u {w : Int} (h : U64 w) : -18446744073709551616 ≤ w ∧ w ≤ 18446744073709551616 := by unfold U64 at h; omega
theorem inv_minus_u {x w : Int} (hx : W127 x) (hw : U64 w) : inv_minus (A.hi x) (A.lo x) 0 w = (A.hi (x - w), A.lo (x - w)) := by
  have q := inv_minus_s hx (W_u hw)
  rwa [hi_w hw, lo_w hw] at q
theorem inv_plus_u {x w : Int} (hx : W127 x) (hw : U64 w) : inv_plus (A.hi x) (A.lo x) 0 w = (A.hi (x + w), A.lo (x + w)) := by
  have q := inv_plus_s hx (W_u hw)
  rwa [hi_w hw, lo_w hw] at q
theorem low_W {x y : Nm} (hx : Raw x) (hy : Raw y) : W127 (lowP x y) := by
  unfold lowP
  rcases (low4_le (x.2.1 * y.2.1) (x.2.1 * y.2.2.1) (x.2.2.1 * y.2.1) (x.2.2.1 * y.2.2.1)).2.2.2.2 with e | e | e | e <;> rw [e]
  · exact mulW hx.l hy.l
  · exact mulW hx.l hy.h
  · exact mulW hx.h hy.l
  · exact mulW hx.h hy.h
theorem top_W {x y : Nm} (hx : Raw x) (hy : Raw y) : W127 (topP x y) := by
  unfold topP
  rcases (top4_ge (x.2.1 * y.2.1) (x.2.1 * y.2.2.1) (x.2.2.1 * y.2.1) (x.2.2.1 * y.2.2.1)).2.2.2.2 with e | e | e | e <;> rw [e]
  · exact mulW hx.l hy.l
  · exact mulW hx.l hy.h
  · exact mulW hx.h hy.l
  · exact mulW hx.h hy.h
theorem inv_far_s {a : Int} (h : I64 a) : inv_far a = B.av a := by
  unfold inv_far inv_far.c inv_far.c0 B.av I64 at *
  by_cases c : a < 0
  · rw [decide_eq_true c, if_pos c, cond_true]; simp only [id, wu_eq]; omega
  · rw [decide_eq_false c, if_neg c, cond_false]; simp only [id, wu_eq]; omega
theorem clip_nf (l h : Int) : NF (clipS l h) := by
  unfold clipS
  split
  · exact .bot
  · rename_i c
    refine make_nf ?_ ?_ U1 U0 <;> (unfold I64; split <;> omega)
/-- what a division may leave over, at the most -/
def slack (t : Nm) : Int := IntKind.u64.wrap ((if B.av t.2.2.1 > B.av t.2.1 then B.av t.2.2.1 else B.av t.2.1) - 1)
theorem slack_U (t : Nm) : U64 (slack t) := wu_U _
noncomputable def overP (x y z : Nm) : Nm × Nm :=
  if (nzS y).1 = true then (nzS y, nzS y)
  else if In x (-9223372036854775808) ∧ In (nzS y) (-1) ∧ In z (-9223372036854775808) then (x, nzS y)
  else (meetS x (clipS (lowP z (nzS y) - slack (nzS y)) (topP z (nzS y) + slack (nzS y))), nzS y)
section
variable {x y z : Nm}
theorem inv_quotient_k {γ : Type} (n : γ) (k : _ → γ) (hx : NF x) (hy : NF y) (hz : Raw z) : inv_quotient.c n k x.1 x.2.1 x.2.2.1 x.2.2.2.1 x.2.2.2.2 y.1 y.2.1 y.2.2.1 y.2.2.2.1 y.2.2.2.2 z.1 z.2.1 z.2.2.1 z.2.2.2.1 z.2.2.2.2 = k (ten (overP x y z)) := by
  unfold inv_quotient.c inv_quotient.c0 overP
  have nt := nz_nf hy.raw
  simp only [nzn_s hy.raw]
  generalize nzS y = t at *
  have rt := nt.raw
  have C := clip_nf (lowP z t - slack t) (topP z t + slack t)
  simp only [nhas_s hx.raw Imin, nhas_s rt In1, nhas_s hz Imin, inv_corners_s hz rt, inv_far_s rt.h, inv_far_s rt.l]
  have m := inv_minus_u (low_W hz rt) (slack_U t)
  have p := inv_plus_u (top_W hz rt) (slack_U t)
  unfold slack at m p C ⊢
  simp only [m, p, inv_clipped_s, nM_ok hx.raw C.raw, nM_s hx.raw C.raw, cond_true]
  by_cases e : t.1 = true
  · rw [if_pos e]; simp [e, ten]
  · have e' : t.1 = false := by simpa using e
    rw [if_neg e]
    by_cases a : In x (-9223372036854775808) <;> by_cases b : In t (-1) <;> by_cases c : In z (-9223372036854775808) <;> simp [a, b, c, e', ten]
theorem inv_quotient_ok (hx : NF x) (hy : NF y) (hz : Raw z) : inv_quotient.ok x.1 x.2.1 x.2.2.1 x.2.2.2.1 x.2.2.2.2 y.1 y.2.1 y.2.2.1 y.2.2.2.1 y.2.2.2.2 z.1 z.2.1 z.2.2.1 z.2.2.2.1 z.2.2.2.2 = true := inv_quotient_k _ _ hx hy hz
theorem inv_quotient_s (hx : NF x) (hy : NF y) (hz : Raw z) : inv_quotient x.1 x.2.1 x.2.2.1 x.2.2.2.1 x.2.2.2.2 y.1 y.2.1 y.2.2.1 y.2.2.2.1 y.2.2.2.2 z.1 z.2.1 z.2.2.1 z.2.2.2.1 z.2.2.2.2 = ten (overP x y z) := inv_quotient_k _ _ hx hy hz
end
theorem cond_f {γ : Type} {b : Bool} {p q : γ} (h : b = false) : (bif b then p else q) = q := by rw [h]; rfl
theorem cond_t {γ : Type} {b : Bool} {p q : γ} (h : b = true) : (bif b then p else q) = p := by rw [h]; rfl
theorem avn (v : Int) : 0 ≤ B.av v := by unfold B.av; split <;> omega
theorem gsel {f m : Int} (hf : 0 ≤ f) (hm : 0 ≤ m) : (bif decide (m > 0) then B.gg f m else f) = B.gg f m := by
  by_cases c : m > 0
  · rw [decide_eq_true c]; rfl
  · rw [decide_eq_false c, cond_false, show m = 0 by omega, B.gg_zero hf]
theorem inv_of_s {a : Int} (h : I64 a) : inv_of a = (A.hi a, A.lo a) := by
  unfold inv_of inv_of.c inv_of.c0 A.hi A.lo
  have e : (a.fdiv (2 ^ min (Int.toNat 63) IntKind.i64.bits)) = a / 9223372036854775808 := by
    rw [show (2 ^ min (Int.toNat 63) IntKind.i64.bits : Int) = 9223372036854775808 from rfl, Int.fdiv_eq_ediv_of_nonneg _ (by decide)]
  rw [e, wu_eq]; unfold I64 at h
  simp only [id]; congr 1; omega
theorem gg_t {t z : Nm} (ht : Raw t) (hz : Raw z) : U64 (B.gg (B.av t.2.1) z.2.2.2.1) := B.gg_U (av_U ht.l) hz.m
def modS (t z : Nm) : Nm := makeS (-9223372036854775808) 9223372036854775807 (B.gg (B.av t.2.1) z.2.2.2.1) (B.md z.2.1 (B.gg (B.av t.2.1) z.2.2.2.1))
theorem mod_nf {t z : Nm} (ht : Raw t) (hz : Raw z) : NF (modS t z) := make_nf Imin Imax (gg_t ht hz) (B.md_U _ (gg_t ht hz))
theorem make_i {t z : Nm} (ht : Raw t) (hz : Raw z) : num_Make (-9223372036854775808) 9223372036854775807 (B.gg (B.av t.2.1) z.2.2.2.1) (B.md z.2.1 (B.gg (B.av t.2.1) z.2.2.2.1)) = modS t z := num_Make_s Imin Imax (gg_t ht hz) (B.md_U _ (gg_t ht hz))
noncomputable def lastP (a t z : Nm) : Nm × Nm := bif !t.1 && (t.2.1 == t.2.2.1) then (meetS a (modS t z), t) else (a, t)
theorem lastI {γ : Type} (k : _ → γ) (a t z : Nm) : (bif !t.1 && (t.2.1 == t.2.2.1) then k (ten (meetS a (modS t z), t)) else k (ten (a, t))) = k (ten (lastP a t z)) := by
  unfold lastP; cases (!t.1 && (t.2.1 == t.2.2.1)) <;> rfl
noncomputable def restA (x z : Nm) : Nm := if z.2.1 > 0 then meetS x (fromS z.2.1) else if z.2.2.1 < 0 then meetS x (toS z.2.2.1) else x
def farZ (z : Nm) : Int := if z.2.1 > 0 then B.av z.2.1 else if z.2.2.1 < 0 then B.av z.2.2.1 else 0
noncomputable def awayS (t : Nm) (f : Int) : Nm := if f > 0 then (if t.2.1 > 0 then meetS t (clipS (f + 1) 9223372036854775807) else if t.2.2.1 < 0 then meetS t (clipS (-9223372036854775808) (-1 - f)) else t) else t
noncomputable def restP (x y z : Nm) : Nm × Nm := if (nzS y).1 = true then (nzS y, nzS y) else lastP (restA x z) (awayS (nzS y) (farZ z)) z
theorem W_n1 : W127 (-1) := by unfold W127; omega
theorem W_f {f : Int} (h : U64 f) : W127 f := by unfold W127 U64 at *; omega
theorem plus_i {f : Int} (h : U64 f) : inv_plus 0 f (A.hi 1) (A.lo 1) = (A.hi (f + 1), A.lo (f + 1)) := by
  have q := inv_plus_s (W_f h) (y := 1) (by omega)
  rwa [hi_w h, lo_w h] at q
section
variable {x y z : Nm}
theorem inv_remainder_k {γ : Type} (n : γ) (k : _ → γ) (hx : NF x) (hy : NF y) (hz : Raw z) : inv_remainder.c n k x.1 x.2.1 x.2.2.1 x.2.2.2.1 x.2.2.2.2 y.1 y.2.1 y.2.2.1 y.2.2.2.1 y.2.2.2.2 z.1 z.2.1 z.2.2.1 z.2.2.2.1 z.2.2.2.2 = k (ten (restP x y z)) := by
  unfold inv_remainder.c inv_remainder.c0 restP
  simp only [nzn_s hy.raw]
  have nt := nz_nf hy.raw
  generalize nzS y = t at *
  have n2 := nt
  have rt := nt.raw
  have F := from_nf hz.l
  have T := to_nf hz.h
  have a1 := meet_nf hx.raw F.raw
  have a2 := meet_nf hx.raw T.raw
  have u0 := av_U hz.l
  have u3 := av_U hz.h
  have n0 := meet_nf rt (clip_nf (B.av z.2.1 + 1) 9223372036854775807).raw
  have n1 := meet_nf rt (clip_nf (-9223372036854775808) (-1 - B.av z.2.1)).raw
  have n3 := meet_nf rt (clip_nf (B.av z.2.2.1 + 1) 9223372036854775807).raw
  have n4 := meet_nf rt (clip_nf (-9223372036854775808) (-1 - B.av z.2.2.1)).raw
  simp only [inv_from_s hz.l, inv_to_s hz.h, nM_ok hx.raw F.raw, nM_s hx.raw F.raw, nM_ok hx.raw T.raw, nM_s hx.raw T.raw, inv_far_s hz.l, inv_far_s hz.h, inv_of_s I1, inv_of_s Imax, inv_of_s Imin, inv_of_s In1, plus_i u0, plus_i u3, inv_minus_u W_n1 u0, inv_minus_u W_n1 u3, inv_clipped_s, nM_ok rt (clip_nf (B.av z.2.1 + 1) 9223372036854775807).raw, nM_s rt (clip_nf (B.av z.2.1 + 1) 9223372036854775807).raw, nM_ok rt (clip_nf (-9223372036854775808) (-1 - B.av z.2.1)).raw, nM_s rt (clip_nf (-9223372036854775808) (-1 - B.av z.2.1)).raw, nM_ok rt (clip_nf (B.av z.2.2.1 + 1) 9223372036854775807).raw, nM_s rt (clip_nf (B.av z.2.2.1 + 1) 9223372036854775807).raw, nM_ok rt (clip_nf (-9223372036854775808) (-1 - B.av z.2.2.1)).raw, nM_s rt (clip_nf (-9223372036854775808) (-1 - B.av z.2.2.1)).raw, inv_one_s, cond_true]
  simp only [inv_far_s n0.raw.l, B.gcd_g (avn _) hz.m.1 (a := B.av ((meetS t (clipS (B.av z.2.1 + 1) 9223372036854775807))).2.1), B.gcd_s (avn _) hz.m.1 (a := B.av ((meetS t (clipS (B.av z.2.1 + 1) 9223372036854775807))).2.1), gsel (avn ((meetS t (clipS (B.av z.2.1 + 1) 9223372036854775807))).2.1) hz.m.1, B.mod_s hz.l (gg_t n0.raw hz), make_i n0.raw hz, inv_far_s n1.raw.l, B.gcd_g (avn _) hz.m.1 (a := B.av ((meetS t (clipS (-9223372036854775808) (-1 - B.av z.2.1)))).2.1), B.gcd_s (avn _) hz.m.1 (a := B.av ((meetS t (clipS (-9223372036854775808) (-1 - B.av z.2.1)))).2.1), gsel (avn ((meetS t (clipS (-9223372036854775808) (-1 - B.av z.2.1)))).2.1) hz.m.1, B.mod_s hz.l (gg_t n1.raw hz), make_i n1.raw hz, inv_far_s n2.raw.l, B.gcd_g (avn _) hz.m.1 (a := B.av (t).2.1), B.gcd_s (avn _) hz.m.1 (a := B.av (t).2.1), gsel (avn (t).2.1) hz.m.1, B.mod_s hz.l (gg_t n2.raw hz), make_i n2.raw hz, inv_far_s n3.raw.l, B.gcd_g (avn _) hz.m.1 (a := B.av ((meetS t (clipS (B.av z.2.2.1 + 1) 9223372036854775807))).2.1), B.gcd_s (avn _) hz.m.1 (a := B.av ((meetS t (clipS (B.av z.2.2.1 + 1) 9223372036854775807))).2.1), gsel (avn ((meetS t (clipS (B.av z.2.2.1 + 1) 9223372036854775807))).2.1) hz.m.1, B.mod_s hz.l (gg_t n3.raw hz), make_i n3.raw hz, inv_far_s n4.raw.l, B.gcd_g (avn _) hz.m.1 (a := B.av ((meetS t (clipS (-9223372036854775808) (-1 - B.av z.2.2.1)))).2.1), B.gcd_s (avn _) hz.m.1 (a := B.av ((meetS t (clipS (-9223372036854775808) (-1 - B.av z.2.2.1)))).2.1), gsel (avn ((meetS t (clipS (-9223372036854775808) (-1 - B.av z.2.2.1)))).2.1) hz.m.1, B.mod_s hz.l (gg_t n4.raw hz), make_i n4.raw hz, nM_ok a1.raw (mod_nf n0.raw hz).raw, nM_s a1.raw (mod_nf n0.raw hz).raw, nM_ok a1.raw (mod_nf n1.raw hz).raw, nM_s a1.raw (mod_nf n1.raw hz).raw, nM_ok a1.raw (mod_nf n2.raw hz).raw, nM_s a1.raw (mod_nf n2.raw hz).raw, nM_ok a2.raw (mod_nf n3.raw hz).raw, nM_s a2.raw (mod_nf n3.raw hz).raw, nM_ok a2.raw (mod_nf n4.raw hz).raw, nM_s a2.raw (mod_nf n4.raw hz).raw, nM_ok a2.raw (mod_nf n2.raw hz).raw, nM_s a2.raw (mod_nf n2.raw hz).raw, nM_ok hx.raw (mod_nf n2.raw hz).raw, nM_s hx.raw (mod_nf n2.raw hz).raw, Bool.and_true, Bool.true_or, Bool.or_self, cond_true]
  by_cases e : t.1 = true
  · rw [if_pos e, cond_t e]; rfl
  have e' : t.1 = false := by simpa using e
  rw [if_neg e, cond_f e']
  by_cases c : z.2.1 > 0
  · have fp : B.av z.2.1 > 0 := by unfold B.av; rw [if_neg (by omega)]; omega
    rw [cond_t (decide_eq_true c), show restA x z = meetS x (fromS z.2.1) from if_pos c, show farZ z = B.av z.2.1 from if_pos c]
    rw [cond_t (decide_eq_true fp)]
    by_cases g : t.2.1 > 0
    · rw [cond_t (decide_eq_true g), show awayS t (B.av z.2.1) = _ from (if_pos fp).trans (if_pos g)]
      exact lastI k _ _ _
    · rw [cond_f (decide_eq_false g)]
      by_cases g2 : t.2.2.1 < 0
      · rw [cond_t (decide_eq_true g2), show awayS t (B.av z.2.1) = _ from (if_pos fp).trans ((if_neg g).trans (if_pos g2))]
        exact lastI k _ _ _
      · rw [cond_f (decide_eq_false g2), show awayS t (B.av z.2.1) = t from (if_pos fp).trans ((if_neg g).trans (if_neg g2))]
        exact lastI k _ _ _
  · rw [cond_f (decide_eq_false c)]
    by_cases d : z.2.2.1 < 0
    · have fp : B.av z.2.2.1 > 0 := by unfold B.av; rw [if_pos d]; omega
      rw [cond_t (decide_eq_true d), show restA x z = meetS x (toS z.2.2.1) from (if_neg c).trans (if_pos d), show farZ z = B.av z.2.2.1 from (if_neg c).trans (if_pos d)]
      rw [cond_t (decide_eq_true fp)]
      by_cases g : t.2.1 > 0
      · rw [cond_t (decide_eq_true g), show awayS t (B.av z.2.2.1) = _ from (if_pos fp).trans (if_pos g)]
        exact lastI k _ _ _
      · rw [cond_f (decide_eq_false g)]
        by_cases g2 : t.2.2.1 < 0
        · rw [cond_t (decide_eq_true g2), show awayS t (B.av z.2.2.1) = _ from (if_pos fp).trans ((if_neg g).trans (if_pos g2))]
          exact lastI k _ _ _
        · rw [cond_f (decide_eq_false g2), show awayS t (B.av z.2.2.1) = t from (if_pos fp).trans ((if_neg g).trans (if_neg g2))]
          exact lastI k _ _ _
    · rw [cond_f (decide_eq_false d), show restA x z = x from (if_neg c).trans (if_neg d), show farZ z = 0 from (if_neg c).trans (if_neg d), show awayS t 0 = t from if_neg (by decide)]
      exact lastI k _ _ _
theorem inv_remainder_ok (hx : NF x) (hy : NF y) (hz : Raw z) : inv_remainder.ok x.1 x.2.1 x.2.2.1 x.2.2.2.1 x.2.2.2.2 y.1 y.2.1 y.2.2.1 y.2.2.2.1 y.2.2.2.2 z.1 z.2.1 z.2.2.1 z.2.2.2.1 z.2.2.2.2 = true := inv_remainder_k _ _ hx hy hz
theorem inv_remainder_s (hx : NF x) (hy : NF y) (hz : Raw z) : inv_remainder x.1 x.2.1 x.2.2.1 x.2.2.2.1 x.2.2.2.2 y.1 y.2.1 y.2.2.1 y.2.2.2.1 y.2.2.2.2 z.1 z.2.1 z.2.2.1 z.2.2.2.1 z.2.2.2.2 = ten (restP x y z) := inv_remainder_k _ _ hx hy hz
end
noncomputable def pairP (op : Int) (x y z : Nm) : Nm × Nm :=
  if op = 1 then negP x z else if op = 3 then addP x y z else if op = 4 then subP x y z else if op = 5 then timesP x y z else if op = 6 then overP x y z else restP x y z
def badP (op : Int) (x y z : Nm) : Prop := x.1 = true ∨ z.1 = true ∨ (y.1 = true ∧ op ≠ 1)
instance (op : Int) (x y z : Nm) : Decidable (badP op x y z) := inferInstanceAs (Decidable (_ ∨ _))
noncomputable def solveS (op : Int) (x y z : Nm) : Nm × Nm := if badP op (normS x) (normS y) (normS z) then (botS, botS) else bothS (pairP op (normS x) (normS y) (normS z))
theorem bad_b (op : Int) (x y z : Nm) : (bif (bif x.1 then true else z.1) then true else (bif y.1 then op != 1 else false)) = decide (badP op x y z) := by
  rw [Bool.eq_iff_iff, decide_eq_true_iff]
  unfold badP
  by_cases h : op = 1 <;> cases x.1 <;> cases y.1 <;> cases z.1 <;> simp [h]
section
variable {x y z : Nm} {op : Int}
theorem inv_Solve_k {γ : Type} (n : γ) (k : _ → γ) (hx : Raw x) (hy : Raw y) (hz : Raw z) : inv_Solve.c n k op x.1 x.2.1 x.2.2.1 x.2.2.2.1 x.2.2.2.2 y.1 y.2.1 y.2.2.1 y.2.2.2.1 y.2.2.2.2 z.1 z.2.1 z.2.2.1 z.2.2.2.1 z.2.2.2.2 = k (if isOp op then app11 (solveS op x y z) 0 else app11 (botS, botS) 1) := by
  unfold inv_Solve.c inv_Solve.c0 solveS
  simp only [nN_s hx, nN_s hy, nN_s hz, num_Bot_s]
  have nx := norm_nf hx
  have ny := norm_nf hy
  have nz := norm_nf hz
  generalize normS x = X at *
  generalize normS y = Y at *
  generalize normS z = Z at *
  simp only [bad_b, inv_negated_ok nx.raw ny.raw nz.raw, inv_negated_s nx.raw ny.raw nz.raw, inv_added_ok nx.raw ny.raw nz.raw, inv_added_s nx.raw ny.raw nz.raw, inv_less_ok nx.raw ny.raw nz.raw, inv_less_s nx.raw ny.raw nz.raw, inv_factors_ok nx ny nz.raw, inv_factors_s nx ny nz.raw, inv_quotient_ok nx ny nz.raw, inv_quotient_s nx ny nz.raw, inv_remainder_ok nx ny nz.raw, inv_remainder_s nx ny nz.raw, told_ten, ten_app, cond_true]
  by_cases o : isOp op
  · rw [if_pos o]
    rcases o with rfl | rfl | rfl | rfl | rfl | rfl
    · by_cases b : badP 1 X Y Z
      · rw [decide_eq_true b, if_pos b]; rfl
      · rw [decide_eq_false b, if_neg b]; rfl
    · by_cases b : badP 3 X Y Z
      · rw [decide_eq_true b, if_pos b]; rfl
      · rw [decide_eq_false b, if_neg b]; rfl
    · by_cases b : badP 4 X Y Z
      · rw [decide_eq_true b, if_pos b]; rfl
      · rw [decide_eq_false b, if_neg b]; rfl
    · by_cases b : badP 5 X Y Z
      · rw [decide_eq_true b, if_pos b]; rfl
      · rw [decide_eq_false b, if_neg b]; rfl
    · by_cases b : badP 6 X Y Z
      · rw [decide_eq_true b, if_pos b]; rfl
      · rw [decide_eq_false b, if_neg b]; rfl
    · by_cases b : badP 7 X Y Z
      · rw [decide_eq_true b, if_pos b]; rfl
      · rw [decide_eq_false b, if_neg b]; rfl
  · rw [if_neg o]
    unfold isOp at o
    simp only [not_or] at o
    obtain ⟨h1, h2, h3, h4, h5, h6⟩ := o
    simp only [beq_false_of_ne h1, beq_false_of_ne h2, beq_false_of_ne h3, beq_false_of_ne h4, beq_false_of_ne h5, beq_false_of_ne h6, cond_false]
    rfl
theorem inv_Solve_ok (hx : Raw x) (hy : Raw y) (hz : Raw z) : inv_Solve.ok op x.1 x.2.1 x.2.2.1 x.2.2.2.1 x.2.2.2.2 y.1 y.2.1 y.2.2.1 y.2.2.2.1 y.2.2.2.2 z.1 z.2.1 z.2.2.1 z.2.2.2.1 z.2.2.2.2 = true := inv_Solve_k _ _ hx hy hz
theorem inv_Solve_s (hx : Raw x) (hy : Raw y) (hz : Raw z) : inv_Solve op x.1 x.2.1 x.2.2.1 x.2.2.2.1 x.2.2.2.2 y.1 y.2.1 y.2.2.1 y.2.2.2.1 y.2.2.2.2 z.1 z.2.1 z.2.2.1 z.2.2.2.1 z.2.2.2.2 = if isOp op then app11 (solveS op x y z) 0 else app11 (botS, botS) 1 := inv_Solve_k _ _ hx hy hz
end
end Go.Proofs.YtonpbbhlmapbdaaGreatDoor.V
