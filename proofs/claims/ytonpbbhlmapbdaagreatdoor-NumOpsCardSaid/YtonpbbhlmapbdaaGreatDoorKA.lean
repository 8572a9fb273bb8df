/- Parts: K1, K2, K3, K4, K5. Conditions: none. -/
import Derived.Test.YtonpbbhlmapbdaaGreatDoorBN7
import Derived.Test.YtonpbbhlmapbdaaGreatDoorAN2
import Derived.Test.YtonpbbhlmapbdaaGreatDoorE7
import Derived.Test.YtonpbbhlmapbdaaGreatDoorAN3
set_option linter.unusedVariables false
set_option linter.unusedSimpArgs false
namespace Go.Proofs.YtonpbbhlmapbdaaGreatDoor.V
open Go Go.Wk Go.RowKit
abbrev Nm := Bool × Int × Int × Int × Int
def botS : Nm := (true, 0, 0, 0, 0)
def makeS (lo hi m r : Int) : Nm :=
  if hi < lo ∨ (B.upS m r lo).2 = false ∨ (B.dnS m r hi).2 = false ∨ (B.dnS m r hi).1 < (B.upS m r lo).1 then botS
  else if (B.upS m r lo).1 = (B.dnS m r hi).1 then (false, (B.upS m r lo).1, (B.upS m r lo).1, 0, IntKind.u64.wrap (B.upS m r lo).1)
  else (false, (B.upS m r lo).1, (B.dnS m r hi).1, m, B.nr m r)
def constS (v : Int) : Nm := (false, v, v, 0, IntKind.u64.wrap v)
structure Raw (x : Nm) : Prop where
  l : I64 x.2.1
  h : I64 x.2.2.1
  m : U64 x.2.2.2.1
  r : U64 x.2.2.2.2
def In (x : Nm) (v : Int) : Prop := x.1 = false ∧ (x.2.1 ≤ v ∧ v ≤ x.2.2.1) ∧ B.hasS x.2.2.2.1 x.2.2.2.2 v = true
instance (x : Nm) (v : Int) : Decidable (In x v) := inferInstanceAs (Decidable (_ ∧ _))
/-- normal form -/
inductive NF : Nm → Prop
  | bot : NF botS
  | one {v : Int} (h : I64 v) : NF (constS v)
  | many {l h m r : Int} (hl : I64 l) (hh : I64 h) (hm : U64 m) (hr : U64 r) (lt : l < h) (m0 : 0 < m) (rm : r < m) (inl : B.hasS m r l = true) (inh : B.hasS m r h = true) : NF (false, l, h, m, r)
theorem wu_U (x : Int) : U64 (IntKind.u64.wrap x) := by unfold U64; rw [wu_eq]; omega
theorem U0 : U64 0 := by unfold U64; omega
theorem U1 : U64 1 := by unfold U64; omega
theorem I0 : I64 0 := by unfold I64; omega
theorem val_const {v : Int} (h : I64 v) : B.val 0 (IntKind.u64.wrap v) = v := B.val0 h
theorem has_const {u v : Int} (h : I64 u) : B.hasS 0 (IntKind.u64.wrap u) v = true ↔ v = u := by
  rw [B.has_iff, val_const h, Int.zero_dvd]; omega
theorem has_one (v : Int) : B.hasS 1 0 v = true := by rw [B.has_iff]; exact Int.one_dvd _
theorem raw_bot : Raw botS := ⟨I0, I0, U0, U0⟩
theorem raw_const {v : Int} (h : I64 v) : Raw (constS v) := ⟨h, h, U0, wu_U v⟩
theorem NF.raw {x : Nm} (h : NF x) : Raw x := by
  cases h with
  | bot => exact raw_bot
  | one h => exact raw_const h
  | many hl hh hm hr => exact ⟨hl, hh, hm, hr⟩
theorem in_bot (v : Int) : ¬ In botS v := fun h => by have := h.1; simp [botS] at this
theorem in_const {u v : Int} (h : I64 u) : In (constS u) v ↔ v = u := by
  unfold In constS
  simp only [true_and]
  rw [has_const h]
  omega
theorem make_in {lo hi m r v : Int} (hl : I64 lo) (hh : I64 hi) (hm : U64 m) (hr : U64 r) (hv : I64 v) :
    In (makeS lo hi m r) v ↔ (lo ≤ v ∧ v ≤ hi) ∧ B.hasS m r v = true := by
  obtain ⟨u1, u2, u3, u4⟩ := B.up_spec hm hr hl
  obtain ⟨d1, d2, d3, d4⟩ := B.dn_spec hm hr hh
  unfold makeS
  by_cases hb : hi < lo ∨ (B.upS m r lo).2 = false ∨ (B.dnS m r hi).2 = false ∨ (B.dnS m r hi).1 < (B.upS m r lo).1
  · rw [if_pos hb]
    refine ⟨fun h => (in_bot v h).elim, fun ⟨⟨h1, h2⟩, h3⟩ => ?_⟩
    have a := u4 v hv h1 h3
    have b := d4 v hv h2 h3
    rcases hb with hb | hb | hb | hb
    · omega
    · rw [hb] at a; simp at a
    · rw [hb] at b; simp at b
    · omega
  · rw [if_neg hb]
    simp only [not_or, Bool.not_eq_false] at hb
    obtain ⟨b1, b2, b3, b4⟩ := hb
    have u2 := u2 b2
    have d2 := d2 b3
    by_cases e : (B.upS m r lo).1 = (B.dnS m r hi).1
    · rw [if_pos e]
      show In (constS _) v ↔ _
      rw [in_const u1]
      constructor
      · intro h; rw [h]; exact ⟨⟨u2.1, by omega⟩, u2.2⟩
      · rintro ⟨⟨h1, h2⟩, h3⟩
        have a := (u4 v hv h1 h3).2
        have b := (d4 v hv h2 h3).2
        omega
    · rw [if_neg e]
      unfold In
      simp only [true_and, B.hasS_nr]
      constructor
      · rintro ⟨⟨h1, h2⟩, h3⟩; exact ⟨⟨by omega, by omega⟩, h3⟩
      · rintro ⟨⟨h1, h2⟩, h3⟩; exact ⟨⟨(u4 v hv h1 h3).2, (d4 v hv h2 h3).2⟩, h3⟩
theorem make_nf {lo hi m r : Int} (hl : I64 lo) (hh : I64 hi) (hm : U64 m) (hr : U64 r) : NF (makeS lo hi m r) := by
  obtain ⟨u1, u2, u3, u4⟩ := B.up_spec hm hr hl
  obtain ⟨d1, d2, d3, d4⟩ := B.dn_spec hm hr hh
  unfold makeS
  by_cases hb : hi < lo ∨ (B.upS m r lo).2 = false ∨ (B.dnS m r hi).2 = false ∨ (B.dnS m r hi).1 < (B.upS m r lo).1
  · rw [if_pos hb]; exact .bot
  · rw [if_neg hb]
    simp only [not_or, Bool.not_eq_false] at hb
    obtain ⟨b1, b2, b3, b4⟩ := hb
    have u2 := u2 b2
    have d2 := d2 b3
    by_cases e : (B.upS m r lo).1 = (B.dnS m r hi).1
    · rw [if_pos e]; exact .one u1
    · rw [if_neg e]
      have m0 : m ≠ 0 := by
        rintro rfl
        have a := u2.2
        have b := d2.2
        rw [B.has_iff, Int.zero_dvd] at a b
        omega
      have hn := B.nr_b (r := r) m0 hm
      exact .many u1 d1 hm (B.nr_U hm hr) (by omega) (by unfold U64 at hm; omega) hn.2 (by rw [B.hasS_nr]; exact u2.2) (by rw [B.hasS_nr]; exact d2.2)
theorem up_at {m r v : Int} (hm : U64 m) (hr : U64 r) (hv : I64 v) (h : B.hasS m r v = true) : B.upS m r v = (v, true) := by
  obtain ⟨u1, u2, u3, u4⟩ := B.up_spec hm hr hv
  have a := u4 v hv (Int.le_refl _) h
  have b := (u2 a.1).1
  exact Prod.ext (by omega) a.1
theorem dn_at {m r v : Int} (hm : U64 m) (hr : U64 r) (hv : I64 v) (h : B.hasS m r v = true) : B.dnS m r v = (v, true) := by
  obtain ⟨u1, u2, u3, u4⟩ := B.dn_spec hm hr hv
  have a := u4 v hv (Int.le_refl _) h
  have b := (u2 a.1).1
  exact Prod.ext (by omega) a.1
theorem make_const {v : Int} (hv : I64 v) : makeS v v 1 0 = constS v := by
  unfold makeS
  rw [up_at U1 U0 hv (has_one v), dn_at U1 U0 hv (has_one v)]
  simp [constS]
theorem make_fix {l h m r : Int} (n : NF (false, l, h, m, r)) : makeS l h m r = (false, l, h, m, r) := by
  have hr := n.raw
  have key : B.hasS m r l = true ∧ B.hasS m r h = true ∧ l ≤ h ∧ (l = h → m = 0 ∧ r = IntKind.u64.wrap l) ∧ (l ≠ h → B.nr m r = r) := by
    generalize hx : ((false, l, h, m, r) : Nm) = x at n
    cases n with
    | bot => simp [botS] at hx
    | @one v hv =>
      simp only [constS, Prod.mk.injEq, true_and] at hx
      obtain ⟨rfl, rfl, rfl, rfl⟩ := hx
      exact ⟨(has_const hv).2 rfl, (has_const hv).2 rfl, Int.le_refl _, fun _ => ⟨rfl, rfl⟩, fun h => (h rfl).elim⟩
    | many hl hh hm hr lt m0 rm i1 i2 =>
      simp only [Prod.mk.injEq, true_and] at hx
      obtain ⟨rfl, rfl, rfl, rfl⟩ := hx
      refine ⟨i1, i2, by omega, fun e => by omega, fun _ => ?_⟩
      unfold B.nr
      rw [if_neg (by omega), Int.emod_eq_of_lt hr.1 rm]
  obtain ⟨k1, k2, k3, k4, k5⟩ := key
  unfold makeS
  rw [up_at hr.m hr.r hr.l k1, dn_at hr.m hr.r hr.h k2]
  simp only [Bool.true_eq_false, false_or]
  rw [if_neg (by omega)]
  by_cases e : l = h
  · obtain ⟨rfl, rfl⟩ := k4 e
    rw [if_pos e]; subst e; rfl
  · rw [if_neg e, k5 e]
def normS (x : Nm) : Nm := if x.1 = true then botS else makeS x.2.1 x.2.2.1 x.2.2.2.1 x.2.2.2.2
theorem norm_in {x : Nm} (h : Raw x) {v : Int} (hv : I64 v) : In (normS x) v ↔ In x v := by
  unfold normS
  cases hb : x.1 with
  | true => rw [if_pos rfl]; exact ⟨fun h => (in_bot v h).elim, fun h => by have := h.1; rw [hb] at this; simp at this⟩
  | false => rw [if_neg (by simp), make_in h.l h.h h.m h.r hv]; unfold In; rw [hb]; simp
theorem norm_nf {x : Nm} (h : Raw x) : NF (normS x) := by
  unfold normS
  split
  · exact .bot
  · exact make_nf h.l h.h h.m h.r
theorem norm_fix {x : Nm} (h : NF x) : normS x = x := by
  unfold normS
  obtain ⟨b, l, u, m, r⟩ := x
  cases b with
  | true => cases h; rfl
  | false => rw [if_neg (by simp)]; exact make_fix h
/-- what a normal form that is not Bot is -/
structure Nz (x : Nm) : Prop where
  b : x.1 = false
  w : Raw x
  le : x.2.1 ≤ x.2.2.1
  l : In x x.2.1
  h : In x x.2.2.1
  st : (x.2.1 = x.2.2.1 ∧ x.2.2.2.1 = 0) ∨ (0 < x.2.2.2.1 ∧ x.2.1 + x.2.2.2.1 ≤ x.2.2.1 ∧ In x (x.2.1 + x.2.2.2.1))
theorem NF.nz {x : Nm} (n : NF x) (h : x.1 = false) : Nz x := by
  cases n with
  | bot => simp [botS] at h
  | @one v hv => exact ⟨rfl, raw_const hv, Int.le_refl _, (in_const hv).2 rfl, (in_const hv).2 rfl, .inl ⟨rfl, rfl⟩⟩
  | @many l u m r hl hh hm hr lt m0 rm i1 i2 =>
    have i1' := i1
    have i2' := i2
    rw [B.has_iff] at i1 i2
    have hd : m ∣ u - l := by have := Int.dvd_sub i2 i1; rwa [show u - B.val m r - (l - B.val m r) = u - l by omega] at this
    have hle : m ≤ u - l := Int.le_of_dvd (by omega) hd
    refine ⟨rfl, ⟨hl, hh, hm, hr⟩, by show l ≤ u; omega, ⟨rfl, ⟨Int.le_refl _, by show l ≤ u; omega⟩, i1'⟩, ⟨rfl, ⟨by show l ≤ u; omega, Int.le_refl _⟩, i2'⟩, .inr ⟨m0, by show l + m ≤ u; omega, rfl, ⟨by show l ≤ l + m; omega, by show l + m ≤ u; omega⟩, ?_⟩⟩
    show B.hasS m r (l + m) = true
    rw [B.has_iff, show l + m - B.val m r = (l - B.val m r) + m by omega]
    exact Int.dvd_add i1 (Int.dvd_refl m)
def Sub (x y : Nm) : Prop := ∀ v, I64 v → In x v → In y v
theorem Sub.rfl' (x : Nm) : Sub x x := fun _ _ h => h
theorem Sub.trans {x y z : Nm} (h : Sub x y) (h' : Sub y z) : Sub x z := fun v hv i => h' v hv (h v hv i)
theorem nf_ne {x : Nm} (n : NF x) : x.1 = true ∨ Nz x := by
  cases h : x.1 with
  | true => exact .inl rfl
  | false => exact .inr (n.nz h)
/-- classes of a part -/
theorem sub_cls {x y : Nm} (hx : Nz x) (wy : Raw y) (h : Sub x y) : y.1 = false ∧ y.2.1 ≤ x.2.1 ∧ x.2.2.1 ≤ y.2.2.1 ∧ y.2.2.2.1 ∣ x.2.2.2.1 ∧ y.2.2.2.1 ∣ B.val x.2.2.2.1 x.2.2.2.2 - B.val y.2.2.2.1 y.2.2.2.2 := by
  have i1 := h _ hx.w.l hx.l
  have i2 := h _ hx.w.h hx.h
  have c1 := B.has_iff.1 i1.2.2
  have own := B.has_iff.1 hx.l.2.2
  have hm : y.2.2.2.1 ∣ x.2.2.2.1 := by
    rcases hx.st with e | ⟨m0, le, i3⟩
    · rw [e.2]; exact Int.dvd_zero _
    · have hI : I64 (x.2.1 + x.2.2.2.1) := by have a := hx.w.l; have b := hx.w.h; unfold I64 at *; omega
      have c2 := B.has_iff.1 (h _ hI i3).2.2
      have := Int.dvd_sub c2 c1
      rwa [show x.2.1 + x.2.2.2.1 - B.val y.2.2.2.1 y.2.2.2.2 - (x.2.1 - B.val y.2.2.2.1 y.2.2.2.2) = x.2.2.2.1 by omega] at this
  refine ⟨i1.1, i1.2.1.1, i2.2.1.2, hm, ?_⟩
  have := Int.dvd_sub c1 (Int.dvd_trans hm own)
  rwa [show x.2.1 - B.val y.2.2.2.1 y.2.2.2.2 - (x.2.1 - B.val x.2.2.2.1 x.2.2.2.2) = B.val x.2.2.2.1 x.2.2.2.2 - B.val y.2.2.2.1 y.2.2.2.2 by omega] at this
theorem bot_sub {x : Nm} (y : Nm) (h : x.1 = true) : Sub x y := fun v _ i => by have := i.1; rw [h] at this; simp at this
/-- the order, reckoned -/
def leqN (x y : Nm) : Bool := x.1 || (!y.1 && ((decide (y.2.1 ≤ x.2.1) && decide (x.2.2.1 ≤ y.2.2.1)) && B.leqS x.2.2.2.1 x.2.2.2.2 y.2.2.2.1 y.2.2.2.2))
def leqS (x y : Nm) : Bool := leqN (normS x) (normS y)
theorem norm_sub {x : Nm} (h : Raw x) : Sub (normS x) x ∧ Sub x (normS x) := ⟨fun v hv => (norm_in h hv).1, fun v hv => (norm_in h hv).2⟩
theorem sub_norm {x y : Nm} (hx : Raw x) (hy : Raw y) : Sub (normS x) (normS y) ↔ Sub x y :=
  ⟨fun h => (norm_sub hx).2.trans (h.trans (norm_sub hy).1), fun h => (norm_sub hx).1.trans (h.trans (norm_sub hy).2)⟩
/-- hulls -/
def joinN (x y : Nm) : Nm := if x.1 = true then y else if y.1 = true then x else
  makeS (if y.2.1 < x.2.1 then y.2.1 else x.2.1) (if y.2.2.1 > x.2.2.1 then y.2.2.1 else x.2.2.1) (B.joinS x.2.2.2.1 x.2.2.2.2 y.2.2.2.1 y.2.2.2.2).1 (B.joinS x.2.2.2.1 x.2.2.2.2 y.2.2.2.1 y.2.2.2.2).2
def joinS (x y : Nm) : Nm := joinN (normS x) (normS y)
theorem ite_I {p : Prop} [Decidable p] {a b : Int} (ha : I64 a) (hb : I64 b) : I64 (if p then a else b) := by split <;> assumption
theorem joinN_spec {x y : Nm} (nx : NF x) (ny : NF y) : Sub x (joinN x y) ∧ Sub y (joinN x y) ∧ ∀ z, NF z → Sub x z → Sub y z → Sub (joinN x y) z := by
  have a := nx.raw
  have b := ny.raw
  have j := B.join_spec a.m a.r b.m b.r
  unfold joinN
  by_cases bx : x.1 = true
  · rw [if_pos bx]; exact ⟨bot_sub y bx, Sub.rfl' y, fun z _ _ h => h⟩
  rw [if_neg bx]
  by_cases by' : y.1 = true
  · rw [if_pos by']; exact ⟨Sub.rfl' x, bot_sub x by', fun z _ h _ => h⟩
  rw [if_neg by']
  have zx := nx.nz (by simpa using bx)
  have zy := ny.nz (by simpa using by')
  obtain ⟨j1, j2, j3, j4, j5⟩ := j
  have d := (j3 _).1 (Int.dvd_refl _)
  have mk := fun (v : Int) (hv : I64 v) => make_in (v := v) (ite_I (p := y.2.1 < x.2.1) b.l a.l) (ite_I (p := y.2.2.1 > x.2.2.1) b.h a.h) j1 j2 hv
  generalize B.joinS x.2.2.2.1 x.2.2.2.2 y.2.2.2.1 y.2.2.2.2 = J at *
  refine ⟨fun v hv i => (mk v hv).2 ⟨⟨?_, ?_⟩, ?_⟩, fun v hv i => (mk v hv).2 ⟨⟨?_, ?_⟩, ?_⟩, fun z nz h1 h2 v hv i => ?_⟩
  · have := i.2.1; split <;> omega
  · have := i.2.1; split <;> omega
  · have := Int.dvd_sub (Int.dvd_trans d.1.1 (B.has_iff.1 i.2.2)) j4
    rw [B.has_iff]
    rwa [show v - B.val x.2.2.2.1 x.2.2.2.2 - (B.val J.1 J.2 - B.val x.2.2.2.1 x.2.2.2.2) = v - B.val J.1 J.2 by omega] at this
  · have := i.2.1; split <;> omega
  · have := i.2.1; split <;> omega
  · have := Int.dvd_sub (Int.dvd_sub (Int.dvd_trans d.1.2 (B.has_iff.1 i.2.2)) d.2) j4
    rw [B.has_iff]
    rwa [show v - B.val y.2.2.2.1 y.2.2.2.2 - (B.val x.2.2.2.1 x.2.2.2.2 - B.val y.2.2.2.1 y.2.2.2.2) - (B.val J.1 J.2 - B.val x.2.2.2.1 x.2.2.2.2) = v - B.val J.1 J.2 by omega] at this
  · have i := (mk v hv).1 i
    obtain ⟨p1, p2, p3, p4, p5⟩ := sub_cls zx nz.raw h1
    obtain ⟨q1, q2, q3, q4, q5⟩ := sub_cls zy nz.raw h2
    refine ⟨p1, ⟨?_, ?_⟩, ?_⟩
    · have := i.1.1; split at this <;> omega
    · have := i.1.2; split at this <;> omega
    · have hc : z.2.2.2.1 ∣ J.1 := (j3 _).2 ⟨⟨p4, q4⟩, by
        have := Int.dvd_sub p5 q5
        rwa [show B.val x.2.2.2.1 x.2.2.2.2 - B.val z.2.2.2.1 z.2.2.2.2 - (B.val y.2.2.2.1 y.2.2.2.2 - B.val z.2.2.2.1 z.2.2.2.2) = B.val x.2.2.2.1 x.2.2.2.2 - B.val y.2.2.2.1 y.2.2.2.2 by omega] at this⟩
      have := Int.dvd_add (Int.dvd_add (Int.dvd_trans hc (B.has_iff.1 i.2)) (Int.dvd_trans hc j4)) p5
      rw [B.has_iff]
      rwa [show v - B.val J.1 J.2 + (B.val J.1 J.2 - B.val x.2.2.2.1 x.2.2.2.2) + (B.val x.2.2.2.1 x.2.2.2.2 - B.val z.2.2.2.1 z.2.2.2.2) = v - B.val z.2.2.2.1 z.2.2.2.2 by omega] at this
theorem join_spec {x y : Nm} (hx : Raw x) (hy : Raw y) : Sub x (joinS x y) ∧ Sub y (joinS x y) ∧ ∀ z, Raw z → Sub x z → Sub y z → Sub (joinS x y) z := by
  obtain ⟨h1, h2, h3⟩ := joinN_spec (norm_nf hx) (norm_nf hy)
  exact ⟨(norm_sub hx).2.trans h1, (norm_sub hy).2.trans h2, fun z hz p q =>
    (h3 _ (norm_nf hz) ((sub_norm hx hz).2 p) ((sub_norm hy hz).2 q)).trans (norm_sub hz).1⟩
/-- common parts -/
noncomputable def meetN (x y : Nm) : Nm := if x.1 = true ∨ y.1 = true ∨ (B.meetS x.2.2.2.1 x.2.2.2.2 y.2.2.2.1 y.2.2.2.2).2.2 = false then botS else
  makeS (A.mt x.2.1 x.2.2.1 y.2.1 y.2.2.1).1 (A.mt x.2.1 x.2.2.1 y.2.1 y.2.2.1).2 (B.meetS x.2.2.2.1 x.2.2.2.2 y.2.2.2.1 y.2.2.2.2).1 (B.meetS x.2.2.2.1 x.2.2.2.2 y.2.2.2.1 y.2.2.2.2).2.1
noncomputable def meetS (x y : Nm) : Nm := meetN (normS x) (normS y)
/-- without 0 at an end -/
def nzN (x : Nm) : Nm := if x.1 = true then x else makeS (if x.2.1 = 0 then 1 else x.2.1) (if x.2.2.1 = 0 then -1 else x.2.2.1) x.2.2.2.1 x.2.2.2.2
def nzS (x : Nm) : Nm := nzN (normS x)
theorem I1 : I64 1 := by unfold I64; omega
theorem In1 : I64 (-1) := by unfold I64; omega
theorem nzN_nf {x : Nm} (n : NF x) : NF (nzN x) := by
  have a := n.raw
  unfold nzN
  split
  · exact n
  · exact make_nf (ite_I I1 a.l) (ite_I In1 a.h) a.m a.r
theorem nzN_in {x : Nm} (n : NF x) {v : Int} (hv : I64 v) : In (nzN x) v ↔ In x v ∧ (v = 0 → x.2.1 ≠ 0 ∧ x.2.2.1 ≠ 0) := by
  have a := n.raw
  unfold nzN
  by_cases h : x.1 = true
  · rw [if_pos h]
    exact ⟨fun i => by have := i.1; rw [h] at this; simp at this, fun i => i.1⟩
  · rw [if_neg h, make_in (ite_I I1 a.l) (ite_I In1 a.h) a.m a.r hv]
    unfold In
    have hb : x.1 = false := by simpa using h
    rw [hb]
    simp only [true_and]
    constructor
    · rintro ⟨⟨h1, h2⟩, h3⟩
      refine ⟨⟨⟨?_, ?_⟩, h3⟩, ?_⟩
      · split at h1 <;> omega
      · split at h2 <;> omega
      · rintro rfl
        constructor
        · intro e; rw [if_pos e] at h1; omega
        · intro e; rw [if_pos e] at h2; omega
    · rintro ⟨⟨⟨h1, h2⟩, h3⟩, h4⟩
      refine ⟨⟨?_, ?_⟩, h3⟩
      · split
        · rename_i e
          by_cases v0 : v = 0
          · exact ((h4 v0).1 e).elim
          · omega
        · exact h1
      · split
        · rename_i e
          by_cases v0 : v = 0
          · exact ((h4 v0).2 e).elim
          · omega
        · exact h2
theorem far1_nr {m : Int} (r v : Int) (h : m ≠ 0) : B.far1 m (B.nr m r) v = B.far1 m r v := by
  unfold B.far1 B.nr
  rw [if_neg h, Int.sub_emod, Int.emod_emod_of_dvd _ (Int.dvd_refl m), ← Int.sub_emod]
theorem far1_nr' {m : Int} (r v : Int) (h : m ≠ 0) : B.far1 m v (B.nr m r) = B.far1 m v r := by
  unfold B.far1 B.nr
  rw [if_neg h, Int.sub_emod, Int.emod_emod_of_dvd _ (Int.dvd_refl m), ← Int.sub_emod]
theorem upS_nr (m r v : Int) : B.upS m (B.nr m r) v = B.upS m r v := by
  unfold B.upS
  by_cases h : m = 0
  · subst h; unfold B.nr; simp only [if_true]
  · simp only [if_neg h, far1_nr r v h]
theorem dnS_nr (m r v : Int) : B.dnS m (B.nr m r) v = B.dnS m r v := by
  unfold B.dnS
  by_cases h : m = 0
  · subst h; unfold B.nr; simp only [if_true]
  · simp only [if_neg h, far1_nr' r v h]
theorem num_Bot_s : num_Bot = botS := rfl
theorem nref_Bot_s : nref_Bot = botS := rfl
theorem num_Make_s {a b c d : Int} (ha : I64 a) (hb : I64 b) (hc : U64 c) (hd : U64 d) : num_Make a b c d = makeS a b c d := by
  unfold num_Make num_Make.c num_Make.c0 makeS
  simp only [B.norm_s hc hd, B.up_s hc (B.nr_U hc hd) ha, B.dn_s hc (B.nr_U hc hd) hb, upS_nr, dnS_nr, B.const_s, num_Bot_s, id]
  generalize B.upS c d a = U
  generalize B.dnS c d b = V
  obtain ⟨u, p⟩ := U
  obtain ⟨v, q⟩ := V
  by_cases h1 : b < a <;> cases p <;> cases q <;> by_cases h2 : v < u <;> by_cases h3 : u = v <;> simp [h1, h2, h3, botS, Bool.cond_eq_ite]
theorem nref_Const_s (v : Int) : nref_Const v = constS v := by
  unfold nref_Const nref_Const.c nref_Const.c0 constS
  simp only [B.const2_s, id]
theorem nref_Make_k {γ : Type} (n : γ) (k : Nm → γ) {a b c d : Int} (ha : I64 a) (hb : I64 b) (hc : U64 c) (hd : U64 d) : nref_Make.c n k a b c d = k (makeS a b c d) := by
  unfold nref_Make.c nref_Make.c0 makeS
  simp only [A.empty_s, B.up2_ok hc hd ha, B.dn2_ok hc hd hb, B.up2_s hc hd ha, B.dn2_s hc hd hb, nref_Bot_s, nref_Const_s, B.norm2_s hc hd, cond_true]
  generalize B.upS c d a = U
  generalize B.dnS c d b = V
  obtain ⟨u, p⟩ := U
  obtain ⟨v, q⟩ := V
  by_cases h1 : b < a <;> cases p <;> cases q <;> by_cases h2 : v < u <;> by_cases h3 : u = v <;> simp [h1, h2, h3, botS, constS, Bool.cond_eq_ite]
theorem nref_Make_ok {a b c d : Int} (ha : I64 a) (hb : I64 b) (hc : U64 c) (hd : U64 d) : nref_Make.ok a b c d = true := nref_Make_k _ _ ha hb hc hd
theorem nref_Make_s {a b c d : Int} (ha : I64 a) (hb : I64 b) (hc : U64 c) (hd : U64 d) : nref_Make a b c d = makeS a b c d := nref_Make_k _ _ ha hb hc hd
def rangeS (a b : Int) : Nm := makeS a b 1 0
theorem num_Range_s {a b : Int} (ha : I64 a) (hb : I64 b) : num_Range a b = rangeS a b := by
  unfold num_Range num_Range.c num_Range.c0
  simp only [num_Make_s ha hb U1 U0, id]
  rfl
theorem num_Const_s {a : Int} (ha : I64 a) : num_Const a = constS a := by
  unfold num_Const num_Const.c num_Const.c0
  simp only [num_Range_s ha ha, id]
  exact make_const ha
theorem Imin : I64 (-9223372036854775808) := by unfold I64; decide
theorem Imax : I64 9223372036854775807 := by unfold I64; decide
theorem num_Norm_s {a0 : Bool} {a1 a2 a3 a4 : Int} (h : Raw (a0, a1, a2, a3, a4)) : num_Norm a0 a1 a2 a3 a4 = normS (a0, a1, a2, a3, a4) := by
  unfold num_Norm num_Norm.c num_Norm.c0 normS
  simp only [num_Make_s h.l h.h h.m h.r, num_Bot_s, id]
  cases a0 <;> rfl
theorem nref_Norm_k {γ : Type} (n : γ) (k : Nm → γ) {a0 : Bool} {a1 a2 a3 a4 : Int} (h : Raw (a0, a1, a2, a3, a4)) : nref_Norm.c n k a0 a1 a2 a3 a4 = k (normS (a0, a1, a2, a3, a4)) := by
  unfold nref_Norm.c nref_Norm.c0 normS
  simp only [nref_Make_ok h.l h.h h.m h.r, nref_Make_s h.l h.h h.m h.r, nref_Bot_s]
  cases a0 <;> rfl
theorem nref_Norm_ok {a0 : Bool} {a1 a2 a3 a4 : Int} (h : Raw (a0, a1, a2, a3, a4)) : nref_Norm.ok a0 a1 a2 a3 a4 = true := nref_Norm_k _ _ h
theorem nref_Norm_s {a0 : Bool} {a1 a2 a3 a4 : Int} (h : Raw (a0, a1, a2, a3, a4)) : nref_Norm a0 a1 a2 a3 a4 = normS (a0, a1, a2, a3, a4) := nref_Norm_k _ _ h
theorem num_Has_s {a0 : Bool} {a1 a2 a3 a4 v : Int} (h : Raw (a0, a1, a2, a3, a4)) (hv : I64 v) : num_Has a0 a1 a2 a3 a4 v = decide (In (a0, a1, a2, a3, a4) v) := by
  unfold num_Has num_Has.c num_Has.c0
  simp only [A.ih_s, B.has_s h.m h.r hv, id]
  rw [Bool.eq_iff_iff, decide_eq_true_eq]
  unfold In
  cases a0 <;> by_cases h1 : a1 ≤ v ∧ v ≤ a2 <;> simp [h1]
theorem aleq_s {a b : Int} (c d : Int) (h : a ≤ b) : A.ival_Leq a b c d = (decide (c ≤ a) && decide (b ≤ d)) := by
  unfold A.ival_Leq A.ival_Leq.c A.ival_Leq.c0
  simp only [A.none_s, id]
  rw [decide_eq_false (show ¬ b < a by omega)]
  by_cases h1 : c ≤ a <;> simp [h1]
theorem nz_or (x : Nm) (h : NF x) : x.1 = true ∨ (x.1 = false ∧ x.2.1 ≤ x.2.2.1) := by
  rcases nf_ne h with h | h
  · exact .inl h
  · exact .inr ⟨h.b, h.le⟩
section
variable {a0 b0 : Bool} {a1 a2 a3 a4 b1 b2 b3 b4 : Int}
theorem num_Leq_k {γ : Type} (n : γ) (k : Bool → γ) (h : Raw (a0, a1, a2, a3, a4)) (h' : Raw (b0, b1, b2, b3, b4)) :
    num_Leq.c n k a0 a1 a2 a3 a4 b0 b1 b2 b3 b4 = k (leqS (a0, a1, a2, a3, a4) (b0, b1, b2, b3, b4)) := by
  unfold num_Leq.c num_Leq.c0 leqS leqN
  have n1 := norm_nf h
  have n2 := norm_nf h'
  simp only [num_Norm_s h, num_Norm_s h']
  generalize normS (a0, a1, a2, a3, a4) = x at *
  generalize normS (b0, b1, b2, b3, b4) = y at *
  simp only [B.leq_ok n1.raw.m n1.raw.r n2.raw.m n2.raw.r, B.leq_s n1.raw.m n1.raw.r n2.raw.m n2.raw.r, Bool.true_or, Bool.true_and, cond_true]
  congr 1
  rcases nz_or x n1 with e | ⟨e, le⟩
  · simp [e]
  · rw [aleq_s _ _ le]
    cases y.1 <;> cases decide (y.2.1 ≤ x.2.1) <;> cases decide (x.2.2.1 ≤ y.2.2.1) <;> simp [e]
theorem num_Leq_ok (h : Raw (a0, a1, a2, a3, a4)) (h' : Raw (b0, b1, b2, b3, b4)) : num_Leq.ok a0 a1 a2 a3 a4 b0 b1 b2 b3 b4 = true := num_Leq_k _ _ h h'
theorem num_Leq_s (h : Raw (a0, a1, a2, a3, a4)) (h' : Raw (b0, b1, b2, b3, b4)) : num_Leq a0 a1 a2 a3 a4 b0 b1 b2 b3 b4 = leqS (a0, a1, a2, a3, a4) (b0, b1, b2, b3, b4) := num_Leq_k _ _ h h'
theorem jn_ne {a b c d : Int} (h : a ≤ b) (h' : c ≤ d) : A.jn a b c d = (if c < a then c else a, if d > b then d else b) := by
  unfold A.jn; rw [if_neg (by omega), if_neg (by omega)]
theorem num_Join_k {γ : Type} (n : γ) (k : Nm → γ) (h : Raw (a0, a1, a2, a3, a4)) (h' : Raw (b0, b1, b2, b3, b4)) :
    num_Join.c n k a0 a1 a2 a3 a4 b0 b1 b2 b3 b4 = k (joinS (a0, a1, a2, a3, a4) (b0, b1, b2, b3, b4)) := by
  unfold num_Join.c num_Join.c0 joinS joinN
  have n1 := norm_nf h
  have n2 := norm_nf h'
  simp only [num_Norm_s h, num_Norm_s h']
  generalize normS (a0, a1, a2, a3, a4) = x at *
  generalize normS (b0, b1, b2, b3, b4) = y at *
  have j := B.join_spec n1.raw.m n1.raw.r n2.raw.m n2.raw.r
  simp only [B.join_ok n1.raw.m n1.raw.r n2.raw.m n2.raw.r, B.join_s n1.raw.m n1.raw.r n2.raw.m n2.raw.r, cond_true]
  rcases nz_or x n1 with e | ⟨e, le⟩
  · simp [e]
  · rcases nz_or y n2 with e' | ⟨e', le'⟩
    · simp [e, e']; rw [← e]
    · simp only [e, e', cond_false, A.ij_s, jn_ne le le']
      rw [num_Make_s (ite_I n2.raw.l n1.raw.l) (ite_I n2.raw.h n1.raw.h) j.1 j.2.1]
      simp
theorem num_Join_ok (h : Raw (a0, a1, a2, a3, a4)) (h' : Raw (b0, b1, b2, b3, b4)) : num_Join.ok a0 a1 a2 a3 a4 b0 b1 b2 b3 b4 = true := num_Join_k _ _ h h'
theorem num_Join_s (h : Raw (a0, a1, a2, a3, a4)) (h' : Raw (b0, b1, b2, b3, b4)) : num_Join a0 a1 a2 a3 a4 b0 b1 b2 b3 b4 = joinS (a0, a1, a2, a3, a4) (b0, b1, b2, b3, b4) := num_Join_k _ _ h h'
theorem num_Meet_k {γ : Type} (n : γ) (k : Nm → γ) (h : Raw (a0, a1, a2, a3, a4)) (h' : Raw (b0, b1, b2, b3, b4)) :
    num_Meet.c n k a0 a1 a2 a3 a4 b0 b1 b2 b3 b4 = k (meetS (a0, a1, a2, a3, a4) (b0, b1, b2, b3, b4)) := by
  unfold num_Meet.c num_Meet.c0 meetS meetN
  have n1 := norm_nf h
  have n2 := norm_nf h'
  simp only [num_Norm_s h, num_Norm_s h']
  generalize normS (a0, a1, a2, a3, a4) = x at *
  generalize normS (b0, b1, b2, b3, b4) = y at *
  have j := B.meet_spec n1.raw.m n1.raw.r n2.raw.m n2.raw.r
  have mi := A.mt_I n1.raw.l n1.raw.h n2.raw.l n2.raw.h
  simp only [B.meet_ok n1.raw.m n1.raw.r n2.raw.m n2.raw.r, B.meet_s n1.raw.m n1.raw.r n2.raw.m n2.raw.r, A.im_s, num_Make_s mi.1 mi.2 j.1 j.2.1, num_Bot_s, cond_true]
  cases x.1 <;> cases y.1 <;> cases (B.meetS x.2.2.2.1 x.2.2.2.2 y.2.2.2.1 y.2.2.2.2).2.2 <;> simp
theorem num_Meet_ok (h : Raw (a0, a1, a2, a3, a4)) (h' : Raw (b0, b1, b2, b3, b4)) : num_Meet.ok a0 a1 a2 a3 a4 b0 b1 b2 b3 b4 = true := num_Meet_k _ _ h h'
theorem num_Meet_s (h : Raw (a0, a1, a2, a3, a4)) (h' : Raw (b0, b1, b2, b3, b4)) : num_Meet a0 a1 a2 a3 a4 b0 b1 b2 b3 b4 = meetS (a0, a1, a2, a3, a4) (b0, b1, b2, b3, b4) := num_Meet_k _ _ h h'
theorem nzN_same {x : Nm} (n : NF x) (h : x.1 = true ∨ (x.2.1 ≠ 0 ∧ x.2.2.1 ≠ 0)) : nzN x = x := by
  unfold nzN
  by_cases hb : x.1 = true
  · rw [if_pos hb]
  · rw [if_neg hb]
    obtain ⟨h1, h2⟩ := h.resolve_left hb
    rw [if_neg h1, if_neg h2]
    have := norm_fix n
    unfold normS at this
    rwa [if_neg hb] at this
theorem num_NonZero_s (h : Raw (a0, a1, a2, a3, a4)) : num_NonZero a0 a1 a2 a3 a4 = nzS (a0, a1, a2, a3, a4) := by
  unfold num_NonZero num_NonZero.c num_NonZero.c0 nzS
  have n1 := norm_nf h
  simp only [num_Norm_s h, num_Bot_s, id]
  generalize normS (a0, a1, a2, a3, a4) = x at *
  have r := n1.raw
  simp only [num_Make_s I1 r.h r.m r.r, num_Make_s r.l In1 r.m r.r]
  by_cases hb : x.1 = true
  · rw [nzN_same n1 (.inl hb)]; simp [hb]; rw [← hb]
  · by_cases h1 : x.2.1 = 0 <;> by_cases h2 : x.2.2.1 = 0
    · unfold nzN makeS; simp [hb, h1, h2, botS, Bool.cond_eq_ite]
    · unfold nzN; simp [hb, h1, h2, Bool.cond_eq_ite]
    · unfold nzN; simp [hb, h1, h2, Bool.cond_eq_ite]
    · rw [nzN_same n1 (.inr ⟨h1, h2⟩)]; simp [hb, h1, h2, Bool.cond_eq_ite]; rw [← (show x.1 = false by simpa using hb)]
theorem nref_NonZero_k {γ : Type} (n : γ) (k : Nm → γ) (h : Raw (a0, a1, a2, a3, a4)) : nref_NonZero.c n k a0 a1 a2 a3 a4 = k (nzS (a0, a1, a2, a3, a4)) := by
  unfold nref_NonZero.c nref_NonZero.c0 nzS
  have n1 := norm_nf h
  simp only [nref_Norm_ok h, nref_Norm_s h, cond_true]
  generalize normS (a0, a1, a2, a3, a4) = x at *
  have r := n1.raw
  simp only [nref_Make_ok I1 r.h r.m r.r, nref_Make_ok r.l In1 r.m r.r, nref_Make_ok I1 In1 r.m r.r, nref_Make_ok r.l r.h r.m r.r, nref_Make_s I1 r.h r.m r.r, nref_Make_s r.l In1 r.m r.r, nref_Make_s I1 In1 r.m r.r, nref_Make_s r.l r.h r.m r.r, cond_true]
  by_cases hb : x.1 = true
  · rw [nzN_same n1 (.inl hb)]; simp [hb]; rw [← hb]
  · unfold nzN
    by_cases h1 : x.2.1 = 0 <;> by_cases h2 : x.2.2.1 = 0 <;> simp [hb, h1, h2, Bool.cond_eq_ite]
theorem nref_NonZero_ok (h : Raw (a0, a1, a2, a3, a4)) : nref_NonZero.ok a0 a1 a2 a3 a4 = true := nref_NonZero_k _ _ h
theorem nref_NonZero_s (h : Raw (a0, a1, a2, a3, a4)) : nref_NonZero a0 a1 a2 a3 a4 = nzS (a0, a1, a2, a3, a4) := nref_NonZero_k _ _ h
end
def isOp (op : Int) : Prop := op = 1 ∨ op = 3 ∨ op = 4 ∨ op = 5 ∨ op = 6 ∨ op = 7
instance (op : Int) : Decidable (isOp op) := inferInstanceAs (Decidable (_ ∨ _))
def app6 (x : Nm) (e : Int) : Bool × Int × Int × Int × Int × Int := (x.1, x.2.1, x.2.2.1, x.2.2.2.1, x.2.2.2.2, e)
def mk4 (i : Int × Int × Bool) (c : Int × Int) : Nm := makeS i.1 i.2.1 c.1 c.2
noncomputable def applyN (op : Int) (x y : Nm) : Nm :=
  if op = 1 then mk4 (A.ival_Neg x.2.1 x.2.2.1) (B.negS x.2.2.2.1 x.2.2.2.2 (A.ival_Neg x.2.1 x.2.2.1).2.2)
  else if op = 3 then mk4 (A.ival_Add x.2.1 x.2.2.1 y.2.1 y.2.2.1) (B.addS x.2.2.2.1 x.2.2.2.2 y.2.2.2.1 y.2.2.2.2 (A.ival_Add x.2.1 x.2.2.1 y.2.1 y.2.2.1).2.2)
  else if op = 4 then mk4 (A.ival_Sub x.2.1 x.2.2.1 y.2.1 y.2.2.1) (B.subS x.2.2.2.1 x.2.2.2.2 y.2.2.2.1 y.2.2.2.2 (A.ival_Sub x.2.1 x.2.2.1 y.2.1 y.2.2.1).2.2)
  else if op = 5 then mk4 (A.ival_Mul x.2.1 x.2.2.1 y.2.1 y.2.2.1) (B.mulS x.2.2.2.1 x.2.2.2.2 y.2.2.2.1 y.2.2.2.2 (A.ival_Mul x.2.1 x.2.2.1 y.2.1 y.2.2.1).2.2)
  else if op = 6 then mk4 (A.ival_Div x.2.1 x.2.2.1 y.2.1 y.2.2.1) (B.divS x.2.2.2.1 x.2.2.2.2 y.2.2.2.1 y.2.2.2.2)
  else mk4 (A.ival_Rem x.2.1 x.2.2.1 y.2.1 y.2.2.1) (B.remS x.2.2.2.1 x.2.2.2.2 y.2.2.2.1 y.2.2.2.2)
def rhs (op : Int) (y : Nm) : Nm := if op = 6 ∨ op = 7 then nzN y else y
noncomputable def applyS (op : Int) (a b : Nm) : Nm :=
  if (normS a).1 = true ∨ ((rhs op (normS b)).1 = true ∧ op ≠ 1) then botS else applyN op (normS a) (rhs op (normS b))
/-! the numbers that operators give -/
theorem nzN_lo {x : Nm} (n : NF x) (h : (nzN x).1 = false) : (nzN x).2.1 ≠ 0 := by
  have z := (nzN_nf n).nz h
  intro e
  have i := (nzN_in n z.w.l).1 z.l
  have i2 := i.2 e
  rw [nzN_same n (.inr i2)] at e
  exact i2.1 e
theorem rw_tmod (x y : Int) : B.rw' x y = x.tmod y := by
  unfold B.rw'
  by_cases h : y = -1
  · subst h; rw [if_pos rfl, Int.tmod_neg, Int.tmod_one]
  · rw [if_neg h]
theorem fitI {x : Int} (h : A.fit x) : I64 x := h
theorem span_I (x y : Int) : I64 (A.span_s x y).1 ∧ I64 (A.span_s x y).2.1 := by
  unfold A.span_s; split
  · exact ⟨B.wi_I _, B.wi_I _⟩
  · exact ⟨Imin, Imax⟩
theorem min_I {a b : Int} (ha : I64 a) (hb : I64 b) : I64 (min a b) := by unfold I64 at *; omega
theorem max_I {a b : Int} (ha : I64 a) (hb : I64 b) : I64 (max a b) := by unfold I64 at *; omega
theorem mulI (a b c d : Int) : I64 (A.mulS a b c d).1 ∧ I64 (A.mulS a b c d).2.1 := by
  unfold A.mulS; split
  · exact ⟨I1, I0⟩
  · split
    · rename_i h
      obtain ⟨p1, p2, p3, p4⟩ := h
      exact ⟨min_I (min_I p1 p2) (min_I p3 p4), max_I (max_I p1 p2) (max_I p3 p4)⟩
    · split
      · exact ⟨B.wi_I _, B.wi_I _⟩
      · exact ⟨Imin, Imax⟩
theorem Q_I {a b c d q : Int} (ha : I64 a) (hb : I64 b) (h : A.Q a b c d q) : I64 q := by
  obtain ⟨x, y, h1, h2, h3, h4, h5, rfl⟩ := h
  split
  · exact Imin
  · rename_i hn
    exact A.tdiv_I (by unfold I64 at *; omega) h5 (by by_cases e : x = -9223372036854775808
                                                      · right; exact fun e2 => hn ⟨e, e2⟩
                                                      · exact .inl e)
theorem divI {a b c d : Int} (ha : I64 a) (hb : I64 b) (hc : I64 c) (hd : I64 d) (h1 : a ≤ b) (h2 : c ≤ d) : I64 (A.ival_Div a b c d).1 ∧ I64 (A.ival_Div a b c d).2.1 := by
  rcases (A.ival_Div_s ha hb hc hd (by omega) (by omega)).1 with ⟨e, _⟩ | ⟨p, q, _⟩
  · simp only [Prod.mk.injEq] at e; rw [e.1, e.2]; exact ⟨I1, I0⟩
  · exact ⟨Q_I ha hb p, Q_I ha hb q⟩
theorem tmodI {x : Int} (y : Int) (h : I64 x) : I64 (x.tmod y) := by rw [← rw_tmod]; exact B.rw_I h
theorem remI {a b c d : Int} (ha : I64 a) (hb : I64 b) (hc : I64 c) (hd : I64 d) : I64 (A.ival_Rem a b c d).1 ∧ I64 (A.ival_Rem a b c d).2.1 := by
  rw [A.rem_eq ha hb hc hd]
  unfold A.ref_Rem A.ref_Rem.c A.ref_Rem.c0
  simp only [A.None_s, id]
  have key : ∀ (t : Int) (p q : Bool), I64 ((bif p then (a, b, true) else ((if (if IntKind.i64.wrap (0 - IntKind.i64.wrap t) > a then IntKind.i64.wrap (0 - IntKind.i64.wrap t) else a) < 0 then (if IntKind.i64.wrap (0 - IntKind.i64.wrap t) > a then IntKind.i64.wrap (0 - IntKind.i64.wrap t) else a) else 0), (if (if IntKind.i64.wrap t < b then IntKind.i64.wrap t else b) > 0 then (if IntKind.i64.wrap t < b then IntKind.i64.wrap t else b) else 0), true) : Int × Int × Bool)).1 ∧ I64 ((bif p then (a, b, true) else ((if (if IntKind.i64.wrap (0 - IntKind.i64.wrap t) > a then IntKind.i64.wrap (0 - IntKind.i64.wrap t) else a) < 0 then (if IntKind.i64.wrap (0 - IntKind.i64.wrap t) > a then IntKind.i64.wrap (0 - IntKind.i64.wrap t) else a) else 0), (if (if IntKind.i64.wrap t < b then IntKind.i64.wrap t else b) > 0 then (if IntKind.i64.wrap t < b then IntKind.i64.wrap t else b) else 0), true) : Int × Int × Bool)).2.1 := by
    intro t p q
    cases p with
    | true => exact ⟨ha, hb⟩
    | false => exact ⟨ite_I (ite_I (B.wi_I _) ha) I0, ite_I (ite_I (B.wi_I _) hb) I0⟩
  cases A.ref_Empty a b with
  | true => exact ⟨I1, I0⟩
  | false =>
    cases A.ref_Empty (A.ref_Meet c d (-9223372036854775808) (-1)).1 (A.ref_Meet c d (-9223372036854775808) (-1)).2 <;> cases A.ref_Empty (A.ref_Meet c d 1 9223372036854775807).1 (A.ref_Meet c d 1 9223372036854775807).2 <;> cases a == b <;> cases c == d <;> simp only [cond_true, cond_false] <;>
      first
      | exact ⟨I1, I0⟩
      | exact key _ _ true
      | (cases c != -1 <;> cases decide (c = 0) <;> simp only [cond_true, cond_false, Bool.not_true, Bool.not_false, Bool.and_self, Bool.true_or, Bool.false_or, Bool.and_true, Bool.true_and, Bool.or_true, Bool.or_false] <;> first | exact ⟨I0, I0⟩ | exact ⟨tmodI _ ha, tmodI _ ha⟩)
theorem nz1 {x : Nm} (n : NF x) (h : ¬ x.1 = true) : Nz x := n.nz (by simpa using h)
section
variable {a0 b0 : Bool} {a1 a2 a3 a4 b1 b2 b3 b4 : Int}
theorem num_op1_s (a b c d : Int) : num_op1 a b c d = A.ival_Neg a b := by
  unfold num_op1 num_op1.c
  (try unfold num_op1.c0)
  rfl
theorem num_op2_k {γ : Type} (n : γ) (k : Int × Int → γ) {a b c d : Int} (e : Bool) (ha : U64 a) (hb : U64 b) : num_op2.c n k a b c d e = k (B.negS a b e) := by
  unfold num_op2.c
  (try unfold num_op2.c0)
  simp only [B.neg_ok e ha hb, B.neg_s e ha hb, cond_true]
theorem num_op2_ok {a b c d : Int} (e : Bool) (ha : U64 a) (hb : U64 b) : num_op2.ok a b c d e = true := num_op2_k _ _ e ha hb
theorem num_op2_s {a b c d : Int} (e : Bool) (ha : U64 a) (hb : U64 b) : num_op2 a b c d e = B.negS a b e := num_op2_k _ _ e ha hb
theorem num_op3_k {γ : Type} (n : γ) (k : Int × Int → γ) {a b c d : Int} (e : Bool) (ha : U64 a) (hb : U64 b) (hc : U64 c) (hd : U64 d) : num_op3.c n k a b c d e = k (B.divS a b c d) := by
  unfold num_op3.c
  (try unfold num_op3.c0)
  simp only [B.div_ok ha hb hc hd, B.div_s ha hb hc hd, cond_true]
theorem num_op3_ok {a b c d : Int} (e : Bool) (ha : U64 a) (hb : U64 b) (hc : U64 c) (hd : U64 d) : num_op3.ok a b c d e = true := num_op3_k _ _ e ha hb hc hd
theorem num_op3_s {a b c d : Int} (e : Bool) (ha : U64 a) (hb : U64 b) (hc : U64 c) (hd : U64 d) : num_op3 a b c d e = B.divS a b c d := num_op3_k _ _ e ha hb hc hd
theorem num_op4_k {γ : Type} (n : γ) (k : Int × Int → γ) {a b c d : Int} (e : Bool) (ha : U64 a) (hb : U64 b) (hc : U64 c) (hd : U64 d) : num_op4.c n k a b c d e = k (B.remS a b c d) := by
  unfold num_op4.c
  (try unfold num_op4.c0)
  simp only [B.rem_ok ha hb hc hd, B.rem_s ha hb hc hd, cond_true]
theorem num_op4_ok {a b c d : Int} (e : Bool) (ha : U64 a) (hb : U64 b) (hc : U64 c) (hd : U64 d) : num_op4.ok a b c d e = true := num_op4_k _ _ e ha hb hc hd
theorem num_op4_s {a b c d : Int} (e : Bool) (ha : U64 a) (hb : U64 b) (hc : U64 c) (hd : U64 d) : num_op4 a b c d e = B.remS a b c d := num_op4_k _ _ e ha hb hc hd
/-- the intervals and classes of two normal forms, worked on, are of 64 bits -/
structure Fit4 (i : Int × Int × Bool) (c : Int × Int) : Prop where
  l : I64 i.1
  h : I64 i.2.1
  m : U64 c.1
  r : U64 c.2
theorem mk4_num {i : Int × Int × Bool} {c : Int × Int} (f : Fit4 i c) : num_Make i.1 i.2.1 c.1 c.2 = mk4 i c := num_Make_s f.l f.h f.m f.r
theorem mk4_ref {i : Int × Int × Bool} {c : Int × Int} (f : Fit4 i c) : nref_Make i.1 i.2.1 c.1 c.2 = mk4 i c := nref_Make_s f.l f.h f.m f.r
theorem mk4_ok {i : Int × Int × Bool} {c : Int × Int} (f : Fit4 i c) : nref_Make.ok i.1 i.2.1 c.1 c.2 = true := nref_Make_ok f.l f.h f.m f.r
theorem fit_neg {x : Nm} (z : Nz x) : Fit4 (A.ival_Neg x.2.1 x.2.2.1) (B.negS x.2.2.2.1 x.2.2.2.2 (A.ival_Neg x.2.1 x.2.2.1).2.2) := by
  have e := A.neg_span z.w.l z.w.h z.le
  have hI := span_I (0 - x.2.2.1) (0 - x.2.1)
  have hf := A.span_fit (l := 0 - x.2.2.1) (h := 0 - x.2.1) (z := 0 - x.2.1) (by have := z.le; omega) (by omega)
  rw [← e] at hI hf
  have hu := B.neg_has (e := (A.ival_Neg x.2.1 x.2.2.1).2.2) z.w.m z.w.r z.w.l z.l.2.2 (fun h => by have := hf h; unfold A.fit at this; omega)
  exact ⟨hI.1, hI.2, hu.1, hu.2.1⟩
theorem fit_add {x y : Nm} (z : Nz x) (v : Nz y) : Fit4 (A.ival_Add x.2.1 x.2.2.1 y.2.1 y.2.2.1) (B.addS x.2.2.2.1 x.2.2.2.2 y.2.2.2.1 y.2.2.2.2 (A.ival_Add x.2.1 x.2.2.1 y.2.1 y.2.2.1).2.2) := by
  have e := A.add_span z.w.l z.w.h v.w.l v.w.h z.le v.le
  have hI := span_I (x.2.1 + y.2.1) (x.2.2.1 + y.2.2.1)
  have l1 := z.le
  have l2 := v.le
  have hf := A.span_fit (l := x.2.1 + y.2.1) (h := x.2.2.1 + y.2.2.1) (z := x.2.1 + y.2.1) (by omega) (by omega)
  rw [← e] at hI hf
  have hu := B.add_has (e := (A.ival_Add x.2.1 x.2.2.1 y.2.1 y.2.2.1).2.2) z.w.m z.w.r v.w.m v.w.r z.l.2.2 v.l.2.2 (fun h => fitI (hf h))
  exact ⟨hI.1, hI.2, hu.1, hu.2.1⟩
theorem fit_sub {x y : Nm} (z : Nz x) (v : Nz y) : Fit4 (A.ival_Sub x.2.1 x.2.2.1 y.2.1 y.2.2.1) (B.subS x.2.2.2.1 x.2.2.2.2 y.2.2.2.1 y.2.2.2.2 (A.ival_Sub x.2.1 x.2.2.1 y.2.1 y.2.2.1).2.2) := by
  have e := A.sub_span z.w.l z.w.h v.w.l v.w.h z.le v.le
  have hI := span_I (x.2.1 - y.2.2.1) (x.2.2.1 - y.2.1)
  have l1 := z.le
  have l2 := v.le
  have hf := A.span_fit (l := x.2.1 - y.2.2.1) (h := x.2.2.1 - y.2.1) (z := x.2.1 - y.2.1) (by omega) (by omega)
  rw [← e] at hI hf
  have hu := B.sub_has (e := (A.ival_Sub x.2.1 x.2.2.1 y.2.1 y.2.2.1).2.2) z.w.m z.w.r v.w.m v.w.r z.l.2.2 v.l.2.2 (fun h => fitI (hf h))
  exact ⟨hI.1, hI.2, hu.1, hu.2.1⟩
theorem fit_mul {x y : Nm} (z : Nz x) (v : Nz y) : Fit4 (A.ival_Mul x.2.1 x.2.2.1 y.2.1 y.2.2.1) (B.mulS x.2.2.2.1 x.2.2.2.2 y.2.2.2.1 y.2.2.2.2 (A.ival_Mul x.2.1 x.2.2.1 y.2.1 y.2.2.1).2.2) := by
  rw [A.ival_Mul_s z.w.l z.w.h v.w.l v.w.h]
  have hI := mulI x.2.1 x.2.2.1 y.2.1 y.2.2.1
  have hu := B.mul_has (e := (A.mulS x.2.1 x.2.2.1 y.2.1 y.2.2.1).2.2) z.w.m z.w.r v.w.m v.w.r z.l.2.2 v.l.2.2 (fun h => fitI ((A.mul_in (Int.le_refl _) z.le (Int.le_refl _) v.le).2 h))
  exact ⟨hI.1, hI.2, hu.1, hu.2.1⟩
theorem fit_div {x y : Nm} (z : Nz x) (v : Nz y) (h : y.2.1 ≠ 0) : Fit4 (A.ival_Div x.2.1 x.2.2.1 y.2.1 y.2.2.1) (B.divS x.2.2.2.1 x.2.2.2.2 y.2.2.2.1 y.2.2.2.2) := by
  have hI := divI z.w.l z.w.h v.w.l v.w.h z.le v.le
  have hu := B.div_has z.w.m z.w.r v.w.m v.w.r z.w.l v.w.l z.l.2.2 v.l.2.2 h
  exact ⟨hI.1, hI.2, hu.1, hu.2.1⟩
theorem fit_rem {x y : Nm} (z : Nz x) (v : Nz y) (h : y.2.1 ≠ 0) : Fit4 (A.ival_Rem x.2.1 x.2.2.1 y.2.1 y.2.2.1) (B.remS x.2.2.2.1 x.2.2.2.2 y.2.2.2.1 y.2.2.2.2) := by
  have hI := remI z.w.l z.w.h v.w.l v.w.h
  have hu := B.rem_has z.w.m z.w.r v.w.m v.w.r z.w.l v.w.l z.l.2.2 v.l.2.2 h
  exact ⟨hI.1, hI.2, hu.1, hu.2.1⟩
theorem nzS_norm {x : Nm} (n : NF x) : nzS x = nzN x := by unfold nzS; rw [norm_fix n]
theorem num_Apply_k {γ : Type} (n : γ) (k : Bool × Int × Int × Int × Int × Int → γ) {op : Int} (h : Raw (a0, a1, a2, a3, a4)) (h' : Raw (b0, b1, b2, b3, b4)) :
    num_Apply.c n k op a0 a1 a2 a3 a4 b0 b1 b2 b3 b4 = k (if isOp op then app6 (applyS op (a0, a1, a2, a3, a4) (b0, b1, b2, b3, b4)) 0 else (false, 0, 0, 0, 0, 1)) := by
  unfold num_Apply.c num_Apply.c0 applyS
  have n1 := norm_nf h
  have n2 := norm_nf h'
  simp only [num_Norm_s h, num_Norm_s h', num_Bot_s]
  generalize normS (a0, a1, a2, a3, a4) = x at *
  generalize normS (b0, b1, b2, b3, b4) = y at *
  have n3 := nzN_nf n2
  have r1 := n1.raw
  have r2 := n2.raw
  have r3 := n3.raw
  have ez : num_NonZero y.1 y.2.1 y.2.2.1 y.2.2.2.1 y.2.2.2.2 = nzN y := (num_NonZero_s (a0 := y.1) (a1 := y.2.1) (a2 := y.2.2.1) (a3 := y.2.2.2.1) (a4 := y.2.2.2.2) r2).trans (nzS_norm n2)
  simp only [ez, num_op1_s, num_op2_ok _ r1.m r1.r, num_op2_s _ r1.m r1.r, B.add_ok _ r1.m r1.r r2.m r2.r, B.add_s _ r1.m r1.r r2.m r2.r, B.sub_ok _ r1.m r1.r r2.m r2.r, B.sub_s _ r1.m r1.r r2.m r2.r, B.mul_ok _ r1.m r1.r r2.m r2.r, B.mul_s _ r1.m r1.r r2.m r2.r, num_op3_ok _ r1.m r1.r r3.m r3.r, num_op3_s _ r1.m r1.r r3.m r3.r, num_op4_ok _ r1.m r1.r r3.m r3.r, num_op4_s _ r1.m r1.r r3.m r3.r, cond_true]
  by_cases e1 : op = 1
  · subst e1
    simp only [isOp, rhs, show ¬ ((1 : Int) = 6 ∨ (1 : Int) = 7) by decide, if_false, true_or, if_true, show ((1 : Int) == 1) = true from rfl, show ((1 : Int) != 1) = false from rfl, cond_true, ne_eq, not_true_eq_false, and_false, or_false]
    by_cases hx : x.1 = true
    · cases y.1 <;> simp [hx, app6, botS]
    · rw [if_neg hx]
      have hx' : x.1 = false := by simpa using hx
      have z := nz1 n1 hx
      rw [hx']
      simp only [mk4_num (fit_neg z)]
      unfold applyN
      cases y.1 <;> simp [app6]
  by_cases e2 : op = 3
  · subst e2
    simp only [isOp, rhs, show ¬ ((3 : Int) = 6 ∨ (3 : Int) = 7) by decide, if_false, true_or, or_true, if_true, show ((3 : Int) == 1) = false from rfl, show ((3 : Int) == 3) = true from rfl, show ((3 : Int) != 1) = true from rfl, cond_true, cond_false, ne_eq, show ¬ (3 : Int) = 1 by decide, not_false_eq_true, and_true]
    by_cases hx : x.1 = true
    · simp [hx, app6, botS]
    · by_cases hy : y.1 = true
      · simp [hx, hy, app6, botS]
      · rw [if_neg (by simp [hx, hy])]
        have hx' : x.1 = false := by simpa using hx
        have hy' : y.1 = false := by simpa using hy
        rw [hx', hy']
        simp only [mk4_num (fit_add (nz1 n1 hx) (nz1 n2 hy))]
        simp [applyN, app6]
  by_cases e3 : op = 4
  · subst e3
    simp only [isOp, rhs, show ¬ ((4 : Int) = 6 ∨ (4 : Int) = 7) by decide, if_false, true_or, or_true, if_true, show ((4 : Int) == 1) = false from rfl, show ((4 : Int) == 3) = false from rfl, show ((4 : Int) == 4) = true from rfl, show ((4 : Int) != 1) = true from rfl, cond_true, cond_false, ne_eq, show ¬ (4 : Int) = 1 by decide, not_false_eq_true, and_true]
    by_cases hx : x.1 = true
    · simp [hx, app6, botS]
    · by_cases hy : y.1 = true
      · simp [hx, hy, app6, botS]
      · rw [if_neg (by simp [hx, hy])]
        have hx' : x.1 = false := by simpa using hx
        have hy' : y.1 = false := by simpa using hy
        rw [hx', hy']
        simp only [mk4_num (fit_sub (nz1 n1 hx) (nz1 n2 hy))]
        simp [applyN, app6]
  by_cases e4 : op = 5
  · subst e4
    simp only [isOp, rhs, show ¬ ((5 : Int) = 6 ∨ (5 : Int) = 7) by decide, if_false, true_or, or_true, if_true, show ((5 : Int) == 1) = false from rfl, show ((5 : Int) == 3) = false from rfl, show ((5 : Int) == 4) = false from rfl, show ((5 : Int) == 5) = true from rfl, show ((5 : Int) != 1) = true from rfl, cond_true, cond_false, ne_eq, show ¬ (5 : Int) = 1 by decide, not_false_eq_true, and_true]
    by_cases hx : x.1 = true
    · simp [hx, app6, botS]
    · by_cases hy : y.1 = true
      · simp [hx, hy, app6, botS]
      · rw [if_neg (by simp [hx, hy])]
        have hx' : x.1 = false := by simpa using hx
        have hy' : y.1 = false := by simpa using hy
        rw [hx', hy']
        simp only [mk4_num (fit_mul (nz1 n1 hx) (nz1 n2 hy))]
        simp [applyN, app6]
  by_cases e5 : op = 6
  · subst e5
    simp only [isOp, rhs, show ((6 : Int) = 6 ∨ (6 : Int) = 7) by decide, if_false, true_or, or_true, if_true, show ((6 : Int) == 1) = false from rfl, show ((6 : Int) == 3) = false from rfl, show ((6 : Int) == 4) = false from rfl, show ((6 : Int) == 5) = false from rfl, show ((6 : Int) == 6) = true from rfl, show ((6 : Int) != 1) = true from rfl, cond_true, cond_false, ne_eq, show ¬ (6 : Int) = 1 by decide, not_false_eq_true, and_true]
    by_cases hx : x.1 = true
    · simp [hx, app6, botS]
    · by_cases hy : (nzN y).1 = true
      · simp [hx, hy, app6, botS]
      · rw [if_neg (by simp [hx, hy])]
        have hx' : x.1 = false := by simpa using hx
        have hy' : (nzN y).1 = false := by simpa using hy
        rw [hx', hy']
        simp only [mk4_num (fit_div (nz1 n1 hx) (nz1 n3 hy) (nzN_lo n2 hy'))]
        simp [applyN, app6]
  by_cases e6 : op = 7
  · subst e6
    simp only [isOp, rhs, show ((7 : Int) = 6 ∨ (7 : Int) = 7) by decide, if_false, true_or, or_true, if_true, show ((7 : Int) == 1) = false from rfl, show ((7 : Int) == 3) = false from rfl, show ((7 : Int) == 4) = false from rfl, show ((7 : Int) == 5) = false from rfl, show ((7 : Int) == 6) = false from rfl, show ((7 : Int) == 7) = true from rfl, show ((7 : Int) != 1) = true from rfl, cond_true, cond_false, ne_eq, show ¬ (7 : Int) = 1 by decide, not_false_eq_true, and_true]
    by_cases hx : x.1 = true
    · simp [hx, app6, botS]
    · by_cases hy : (nzN y).1 = true
      · simp [hx, hy, app6, botS]
      · rw [if_neg (by simp [hx, hy])]
        have hx' : x.1 = false := by simpa using hx
        have hy' : (nzN y).1 = false := by simpa using hy
        rw [hx', hy']
        simp only [mk4_num (fit_rem (nz1 n1 hx) (nz1 n3 hy) (nzN_lo n2 hy'))]
        simp [applyN, app6]
  rw [if_neg (by unfold isOp; omega)]
  simp [Bool.cond_eq_ite, e1, e2, e3, e4, e5, e6]
theorem num_Apply_ok {op : Int} (h : Raw (a0, a1, a2, a3, a4)) (h' : Raw (b0, b1, b2, b3, b4)) : num_Apply.ok op a0 a1 a2 a3 a4 b0 b1 b2 b3 b4 = true := num_Apply_k _ _ h h'
theorem num_Apply_s {op : Int} (h : Raw (a0, a1, a2, a3, a4)) (h' : Raw (b0, b1, b2, b3, b4)) : num_Apply op a0 a1 a2 a3 a4 b0 b1 b2 b3 b4 = if isOp op then app6 (applyS op (a0, a1, a2, a3, a4) (b0, b1, b2, b3, b4)) 0 else (false, 0, 0, 0, 0, 1) := num_Apply_k _ _ h h'
end
section
variable {a0 b0 : Bool} {a1 a2 a3 a4 b1 b2 b3 b4 : Int}
theorem nref_Apply_k {γ : Type} (n : γ) (k : Bool × Int × Int × Int × Int × Int → γ) {op : Int} (h : Raw (a0, a1, a2, a3, a4)) (h' : Raw (b0, b1, b2, b3, b4)) :
    nref_Apply.c n k op a0 a1 a2 a3 a4 b0 b1 b2 b3 b4 = k (if isOp op then app6 (applyS op (a0, a1, a2, a3, a4) (b0, b1, b2, b3, b4)) 0 else (false, 0, 0, 0, 0, 1)) := by
  unfold nref_Apply.c nref_Apply.c0 applyS
  have n1 := norm_nf h
  have n2 := norm_nf h'
  simp only [nref_Norm_ok h, nref_Norm_ok h', nref_Norm_s h, nref_Norm_s h', nref_Bot_s, nref_Const_s, cond_true]
  generalize normS (a0, a1, a2, a3, a4) = x at *
  generalize normS (b0, b1, b2, b3, b4) = y at *
  have n3 := nzN_nf n2
  have r1 := n1.raw
  have r2 := n2.raw
  have r3 := n3.raw
  have ez : nref_NonZero y.1 y.2.1 y.2.2.1 y.2.2.2.1 y.2.2.2.2 = nzN y := (nref_NonZero_s (a0 := y.1) (a1 := y.2.1) (a2 := y.2.2.1) (a3 := y.2.2.2.1) (a4 := y.2.2.2.2) r2).trans (nzS_norm n2)
  have eo : nref_NonZero.ok y.1 y.2.1 y.2.2.1 y.2.2.2.1 y.2.2.2.2 = true := nref_NonZero_ok (a0 := y.1) (a1 := y.2.1) (a2 := y.2.2.1) (a3 := y.2.2.2.1) (a4 := y.2.2.2.2) r2
  by_cases e1 : op = 1
  · subst e1
    simp only [isOp, rhs, show ¬ ((1 : Int) = 6 ∨ (1 : Int) = 7) by decide, if_false, true_or, if_true, show ((1 : Int) == 1) = true from rfl, show ((1 : Int) != 1) = false from rfl, show ((1 : Int) == 3) = false from rfl, show ((1 : Int) != 3) = true from rfl, show ((1 : Int) == 4) = false from rfl, show ((1 : Int) != 4) = true from rfl, show ((1 : Int) == 5) = false from rfl, show ((1 : Int) != 5) = true from rfl, show ((1 : Int) == 6) = false from rfl, show ((1 : Int) != 6) = true from rfl, show ((1 : Int) == 7) = false from rfl, show ((1 : Int) != 7) = true from rfl, cond_true, cond_false, ne_eq, not_true_eq_false, and_false, or_false, Bool.or_true, Bool.true_and, Bool.and_true]
    by_cases hx : x.1 = true
    · simp [hx, app6, botS, constS]
    · rw [if_neg hx]
      have hx' : x.1 = false := by simpa using hx
      have z := nz1 n1 hx
      rw [hx']
      simp only [constS, cond_false, ← A.neg_eq z.w.l z.w.h, B.neg2_ok _ r1.m r1.r, B.neg2_s _ r1.m r1.r, mk4_ok (fit_neg z), mk4_ref (fit_neg z), cond_true]
      unfold applyN
      simp [app6]
  by_cases e3 : op = 3
  · subst e3
    simp only [isOp, rhs, show ¬ ((3 : Int) = 6 ∨ (3 : Int) = 7) by decide, if_false, true_or, or_true, if_true, show ((3 : Int) == 1) = false from rfl, show ((3 : Int) != 1) = true from rfl, show ((3 : Int) == 3) = true from rfl, show ((3 : Int) != 3) = false from rfl, show ((3 : Int) == 4) = false from rfl, show ((3 : Int) != 4) = true from rfl, show ((3 : Int) == 5) = false from rfl, show ((3 : Int) != 5) = true from rfl, show ((3 : Int) == 6) = false from rfl, show ((3 : Int) != 6) = true from rfl, show ((3 : Int) == 7) = false from rfl, show ((3 : Int) != 7) = true from rfl, cond_true, cond_false, ne_eq, show ¬ (3 : Int) = 1 by decide, not_false_eq_true, and_true, Bool.or_true, Bool.true_and, Bool.and_true]
    by_cases hx : x.1 = true
    · simp [hx, app6, botS]
    · by_cases hy : y.1 = true
      · simp [hx, hy, app6, botS]
      · rw [if_neg (by simp [hx, hy])]
        have hx' : x.1 = false := by simpa using hx
        have hy' : y.1 = false := by simpa using hy
        have z := nz1 n1 hx
        have v := nz1 n2 hy
        rw [hx', hy']
        simp only [cond_false, ← A.add_eq z.w.l z.w.h v.w.l v.w.h, B.add2_ok _ r1.m r1.r r2.m r2.r, B.add2_s _ r1.m r1.r r2.m r2.r, mk4_ok (fit_add z v), mk4_ref (fit_add z v), cond_true]
        simp [applyN, app6]
  by_cases e4 : op = 4
  · subst e4
    simp only [isOp, rhs, show ¬ ((4 : Int) = 6 ∨ (4 : Int) = 7) by decide, if_false, true_or, or_true, if_true, show ((4 : Int) == 1) = false from rfl, show ((4 : Int) != 1) = true from rfl, show ((4 : Int) == 3) = false from rfl, show ((4 : Int) != 3) = true from rfl, show ((4 : Int) == 4) = true from rfl, show ((4 : Int) != 4) = false from rfl, show ((4 : Int) == 5) = false from rfl, show ((4 : Int) != 5) = true from rfl, show ((4 : Int) == 6) = false from rfl, show ((4 : Int) != 6) = true from rfl, show ((4 : Int) == 7) = false from rfl, show ((4 : Int) != 7) = true from rfl, cond_true, cond_false, ne_eq, show ¬ (4 : Int) = 1 by decide, not_false_eq_true, and_true, Bool.or_true, Bool.true_and, Bool.and_true]
    by_cases hx : x.1 = true
    · simp [hx, app6, botS]
    · by_cases hy : y.1 = true
      · simp [hx, hy, app6, botS]
      · rw [if_neg (by simp [hx, hy])]
        have hx' : x.1 = false := by simpa using hx
        have hy' : y.1 = false := by simpa using hy
        have z := nz1 n1 hx
        have v := nz1 n2 hy
        rw [hx', hy']
        simp only [cond_false, ← A.sub_eq z.w.l z.w.h v.w.l v.w.h, B.sub2_ok _ r1.m r1.r r2.m r2.r, B.sub2_s _ r1.m r1.r r2.m r2.r, mk4_ok (fit_sub z v), mk4_ref (fit_sub z v), cond_true]
        simp [applyN, app6]
  by_cases e5 : op = 5
  · subst e5
    simp only [isOp, rhs, show ¬ ((5 : Int) = 6 ∨ (5 : Int) = 7) by decide, if_false, true_or, or_true, if_true, show ((5 : Int) == 1) = false from rfl, show ((5 : Int) != 1) = true from rfl, show ((5 : Int) == 3) = false from rfl, show ((5 : Int) != 3) = true from rfl, show ((5 : Int) == 4) = false from rfl, show ((5 : Int) != 4) = true from rfl, show ((5 : Int) == 5) = true from rfl, show ((5 : Int) != 5) = false from rfl, show ((5 : Int) == 6) = false from rfl, show ((5 : Int) != 6) = true from rfl, show ((5 : Int) == 7) = false from rfl, show ((5 : Int) != 7) = true from rfl, cond_true, cond_false, ne_eq, show ¬ (5 : Int) = 1 by decide, not_false_eq_true, and_true, Bool.or_true, Bool.true_and, Bool.and_true]
    by_cases hx : x.1 = true
    · simp [hx, app6, botS]
    · by_cases hy : y.1 = true
      · simp [hx, hy, app6, botS]
      · rw [if_neg (by simp [hx, hy])]
        have hx' : x.1 = false := by simpa using hx
        have hy' : y.1 = false := by simpa using hy
        have z := nz1 n1 hx
        have v := nz1 n2 hy
        rw [hx', hy']
        simp only [cond_false, ← A.mul_eq z.w.l z.w.h v.w.l v.w.h, B.mul2_ok _ r1.m r1.r r2.m r2.r, B.mul2_s _ r1.m r1.r r2.m r2.r, mk4_ok (fit_mul z v), mk4_ref (fit_mul z v), cond_true]
        simp [applyN, app6]
  by_cases e6 : op = 6
  · subst e6
    simp only [isOp, rhs, show ((6 : Int) = 6 ∨ (6 : Int) = 7) by decide, if_false, true_or, or_true, if_true, show ((6 : Int) == 1) = false from rfl, show ((6 : Int) != 1) = true from rfl, show ((6 : Int) == 3) = false from rfl, show ((6 : Int) != 3) = true from rfl, show ((6 : Int) == 4) = false from rfl, show ((6 : Int) != 4) = true from rfl, show ((6 : Int) == 5) = false from rfl, show ((6 : Int) != 5) = true from rfl, show ((6 : Int) == 6) = true from rfl, show ((6 : Int) != 6) = false from rfl, show ((6 : Int) == 7) = false from rfl, show ((6 : Int) != 7) = true from rfl, cond_true, cond_false, ne_eq, show ¬ (6 : Int) = 1 by decide, not_false_eq_true, and_true, Bool.or_true, Bool.true_and, Bool.and_true, eo, ez]
    by_cases hx : x.1 = true
    · simp [hx, app6, botS]
    · by_cases hy : (nzN y).1 = true
      · simp [hx, hy, app6, botS]
      · rw [if_neg (by simp [hx, hy])]
        have hx' : x.1 = false := by simpa using hx
        have hy' : (nzN y).1 = false := by simpa using hy
        have z := nz1 n1 hx
        have v := nz1 n3 hy
        rw [hx', hy']
        simp only [cond_false, A.ref_Div_ok, ← A.div_eq z.w.l z.w.h v.w.l v.w.h, B.div2_ok r1.m r1.r r3.m r3.r, B.div2_s r1.m r1.r r3.m r3.r, mk4_ok (fit_div z v (nzN_lo n2 hy')), mk4_ref (fit_div z v (nzN_lo n2 hy')), cond_true]
        simp [applyN, app6]
  by_cases e7 : op = 7
  · subst e7
    simp only [isOp, rhs, show ((7 : Int) = 6 ∨ (7 : Int) = 7) by decide, if_false, true_or, or_true, if_true, show ((7 : Int) == 1) = false from rfl, show ((7 : Int) != 1) = true from rfl, show ((7 : Int) == 3) = false from rfl, show ((7 : Int) != 3) = true from rfl, show ((7 : Int) == 4) = false from rfl, show ((7 : Int) != 4) = true from rfl, show ((7 : Int) == 5) = false from rfl, show ((7 : Int) != 5) = true from rfl, show ((7 : Int) == 6) = false from rfl, show ((7 : Int) != 6) = true from rfl, show ((7 : Int) == 7) = true from rfl, show ((7 : Int) != 7) = false from rfl, cond_true, cond_false, ne_eq, show ¬ (7 : Int) = 1 by decide, not_false_eq_true, and_true, Bool.or_true, Bool.true_and, Bool.and_true, eo, ez]
    by_cases hx : x.1 = true
    · simp [hx, app6, botS]
    · by_cases hy : (nzN y).1 = true
      · simp [hx, hy, app6, botS]
      · rw [if_neg (by simp [hx, hy])]
        have hx' : x.1 = false := by simpa using hx
        have hy' : (nzN y).1 = false := by simpa using hy
        have z := nz1 n1 hx
        have v := nz1 n3 hy
        rw [hx', hy']
        simp only [cond_false, A.ref_Rem_ok z.w.l z.w.h v.w.l v.w.h, ← A.rem_eq z.w.l z.w.h v.w.l v.w.h, B.rem2_ok r1.m r1.r r3.m r3.r, B.rem2_s r1.m r1.r r3.m r3.r, mk4_ok (fit_rem z v (nzN_lo n2 hy')), mk4_ref (fit_rem z v (nzN_lo n2 hy')), cond_true]
        simp [applyN, app6]
  rw [if_neg (by unfold isOp; omega)]
  simp [Bool.cond_eq_ite, e1, e3, e4, e5, e6, e7]
theorem nref_Apply_ok {op : Int} (h : Raw (a0, a1, a2, a3, a4)) (h' : Raw (b0, b1, b2, b3, b4)) : nref_Apply.ok op a0 a1 a2 a3 a4 b0 b1 b2 b3 b4 = true := nref_Apply_k _ _ h h'
theorem nref_Apply_s {op : Int} (h : Raw (a0, a1, a2, a3, a4)) (h' : Raw (b0, b1, b2, b3, b4)) : nref_Apply op a0 a1 a2 a3 a4 b0 b1 b2 b3 b4 = if isOp op then app6 (applyS op (a0, a1, a2, a3, a4) (b0, b1, b2, b3, b4)) 0 else (false, 0, 0, 0, 0, 1) := nref_Apply_k _ _ h h'
end
end Go.Proofs.YtonpbbhlmapbdaaGreatDoor.V
