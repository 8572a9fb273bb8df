/- Numbers of chapter 13 as sets: normal forms, order, join, meet, without 0. Conditions: none. -/
import Derived.Test.YtonpbbhlmapbdaaGreatDoorBN7
import Derived.Test.YtonpbbhlmapbdaaGreatDoorAN2
set_option linter.unusedVariables false
set_option linter.unusedSimpArgs false
namespace Go.Proofs.YtonpbbhlmapbdaaGreatDoor.V
open Go Go.Wk Go.RowKit

abbrev Nm := Bool × Int × Int × Int × Int
def botS : Nm := (true, 0, 0, 0, 0)
def makeS (lo hi m r : Int) : Nm :=
  if hi < lo ∨ (B.upS m r lo).2 = false ∨ (B.dnS m r hi).2 = false ∨ (B.dnS m r hi).1 < (B.upS m r lo).1 then botS
  else if (B.upS m r lo).1 = (B.dnS m r hi).1 then (false, (B.upS m r lo).1, (B.upS m r lo).1, 0, IntKind.u64.wrap (B.upS m r lo).1)
  else (false, (B.upS m r lo).1, (B.dnS m r hi).1, m, B.nr m r)
def constS (v : Int) : Nm := (false, v, v, 0, IntKind.u64.wrap v)
structure Raw (x : Nm) : Prop where
  l : I64 x.2.1
  h : I64 x.2.2.1
  m : U64 x.2.2.2.1
  r : U64 x.2.2.2.2
def In (x : Nm) (v : Int) : Prop := x.1 = false ∧ (x.2.1 ≤ v ∧ v ≤ x.2.2.1) ∧ B.hasS x.2.2.2.1 x.2.2.2.2 v = true
instance (x : Nm) (v : Int) : Decidable (In x v) := inferInstanceAs (Decidable (_ ∧ _))
/-- normal form -/
inductive NF : Nm → Prop
  | bot : NF botS
  | one {v : Int} (h : I64 v) : NF (constS v)
  | many {l h m r : Int} (hl : I64 l) (hh : I64 h) (hm : U64 m) (hr : U64 r) (lt : l < h) (m0 : 0 < m) (rm : r < m) (inl : B.hasS m r l = true) (inh : B.hasS m r h = true) : NF (false, l, h, m, r)
theorem wu_U (x : Int) : U64 (IntKind.u64.wrap x) := by unfold U64; rw [wu_eq]; omega
theorem U0 : U64 0 := by unfold U64; omega
theorem U1 : U64 1 := by unfold U64; omega
theorem I0 : I64 0 := by unfold I64; omega
theorem val_const {v : Int} (h : I64 v) : B.val 0 (IntKind.u64.wrap v) = v := B.val0 h
theorem has_const {u v : Int} (h : I64 u) : B.hasS 0 (IntKind.u64.wrap u) v = true ↔ v = u := by
  rw [B.has_iff, val_const h, Int.zero_dvd]; omega
theorem has_one (v : Int) : B.hasS 1 0 v = true := by rw [B.has_iff]; exact Int.one_dvd _
theorem raw_bot : Raw botS := ⟨I0, I0, U0, U0⟩
theorem raw_const {v : Int} (h : I64 v) : Raw (constS v) := ⟨h, h, U0, wu_U v⟩
theorem NF.raw {x : Nm} (h : NF x) : Raw x := by
  cases h with
  | bot => exact raw_bot
  | one h => exact raw_const h
  | many hl hh hm hr => exact ⟨hl, hh, hm, hr⟩
theorem in_bot (v : Int) : ¬ In botS v := fun h => by have := h.1; simp [botS] at this
theorem in_const {u v : Int} (h : I64 u) : In (constS u) v ↔ v = u := by
  unfold In constS
  simp only [true_and]
  rw [has_const h]
  omega
theorem make_in {lo hi m r v : Int} (hl : I64 lo) (hh : I64 hi) (hm : U64 m) (hr : U64 r) (hv : I64 v) :
    In (makeS lo hi m r) v ↔ (lo ≤ v ∧ v ≤ hi) ∧ B.hasS m r v = true := by
  obtain ⟨u1, u2, u3, u4⟩ := B.up_spec hm hr hl
  obtain ⟨d1, d2, d3, d4⟩ := B.dn_spec hm hr hh
  unfold makeS
  by_cases hb : hi < lo ∨ (B.upS m r lo).2 = false ∨ (B.dnS m r hi).2 = false ∨ (B.dnS m r hi).1 < (B.upS m r lo).1
  · rw [if_pos hb]
    refine ⟨fun h => (in_bot v h).elim, fun ⟨⟨h1, h2⟩, h3⟩ => ?_⟩
    have a := u4 v hv h1 h3
    have b := d4 v hv h2 h3
    rcases hb with hb | hb | hb | hb
    · omega
    · rw [hb] at a; simp at a
    · rw [hb] at b; simp at b
    · omega
  · rw [if_neg hb]
    simp only [not_or, Bool.not_eq_false] at hb
    obtain ⟨b1, b2, b3, b4⟩ := hb
    have u2 := u2 b2
    have d2 := d2 b3
    by_cases e : (B.upS m r lo).1 = (B.dnS m r hi).1
    · rw [if_pos e]
      show In (constS _) v ↔ _
      rw [in_const u1]
      constructor
      · intro h; rw [h]; exact ⟨⟨u2.1, by omega⟩, u2.2⟩
      · rintro ⟨⟨h1, h2⟩, h3⟩
        have a := (u4 v hv h1 h3).2
        have b := (d4 v hv h2 h3).2
        omega
    · rw [if_neg e]
      unfold In
      simp only [true_and, B.hasS_nr]
      constructor
      · rintro ⟨⟨h1, h2⟩, h3⟩; exact ⟨⟨by omega, by omega⟩, h3⟩
      · rintro ⟨⟨h1, h2⟩, h3⟩; exact ⟨⟨(u4 v hv h1 h3).2, (d4 v hv h2 h3).2⟩, h3⟩
theorem make_nf {lo hi m r : Int} (hl : I64 lo) (hh : I64 hi) (hm : U64 m) (hr : U64 r) : NF (makeS lo hi m r) := by
  obtain ⟨u1, u2, u3, u4⟩ := B.up_spec hm hr hl
  obtain ⟨d1, d2, d3, d4⟩ := B.dn_spec hm hr hh
  unfold makeS
  by_cases hb : hi < lo ∨ (B.upS m r lo).2 = false ∨ (B.dnS m r hi).2 = false ∨ (B.dnS m r hi).1 < (B.upS m r lo).1
  · rw [if_pos hb]; exact .bot
  · rw [if_neg hb]
    simp only [not_or, Bool.not_eq_false] at hb
    obtain ⟨b1, b2, b3, b4⟩ := hb
    have u2 := u2 b2
    have d2 := d2 b3
    by_cases e : (B.upS m r lo).1 = (B.dnS m r hi).1
    · rw [if_pos e]; exact .one u1
    · rw [if_neg e]
      have m0 : m ≠ 0 := by
        rintro rfl
        have a := u2.2
        have b := d2.2
        rw [B.has_iff, Int.zero_dvd] at a b
        omega
      have hn := B.nr_b (r := r) m0 hm
      exact .many u1 d1 hm (B.nr_U hm hr) (by omega) (by unfold U64 at hm; omega) hn.2 (by rw [B.hasS_nr]; exact u2.2) (by rw [B.hasS_nr]; exact d2.2)
theorem up_at {m r v : Int} (hm : U64 m) (hr : U64 r) (hv : I64 v) (h : B.hasS m r v = true) : B.upS m r v = (v, true) := by
  obtain ⟨u1, u2, u3, u4⟩ := B.up_spec hm hr hv
  have a := u4 v hv (Int.le_refl _) h
  have b := (u2 a.1).1
  exact Prod.ext (by omega) a.1
theorem dn_at {m r v : Int} (hm : U64 m) (hr : U64 r) (hv : I64 v) (h : B.hasS m r v = true) : B.dnS m r v = (v, true) := by
  obtain ⟨u1, u2, u3, u4⟩ := B.dn_spec hm hr hv
  have a := u4 v hv (Int.le_refl _) h
  have b := (u2 a.1).1
  exact Prod.ext (by omega) a.1
theorem make_const {v : Int} (hv : I64 v) : makeS v v 1 0 = constS v := by
  unfold makeS
  rw [up_at U1 U0 hv (has_one v), dn_at U1 U0 hv (has_one v)]
  simp [constS]
theorem make_fix {l h m r : Int} (n : NF (false, l, h, m, r)) : makeS l h m r = (false, l, h, m, r) := by
  have hr := n.raw
  have key : B.hasS m r l = true ∧ B.hasS m r h = true ∧ l ≤ h ∧ (l = h → m = 0 ∧ r = IntKind.u64.wrap l) ∧ (l ≠ h → B.nr m r = r) := by
    generalize hx : ((false, l, h, m, r) : Nm) = x at n
    cases n with
    | bot => simp [botS] at hx
    | @one v hv =>
      simp only [constS, Prod.mk.injEq, true_and] at hx
      obtain ⟨rfl, rfl, rfl, rfl⟩ := hx
      exact ⟨(has_const hv).2 rfl, (has_const hv).2 rfl, Int.le_refl _, fun _ => ⟨rfl, rfl⟩, fun h => (h rfl).elim⟩
    | many hl hh hm hr lt m0 rm i1 i2 =>
      simp only [Prod.mk.injEq, true_and] at hx
      obtain ⟨rfl, rfl, rfl, rfl⟩ := hx
      refine ⟨i1, i2, by omega, fun e => by omega, fun _ => ?_⟩
      unfold B.nr
      rw [if_neg (by omega), Int.emod_eq_of_lt hr.1 rm]
  obtain ⟨k1, k2, k3, k4, k5⟩ := key
  unfold makeS
  rw [up_at hr.m hr.r hr.l k1, dn_at hr.m hr.r hr.h k2]
  simp only [Bool.true_eq_false, false_or]
  rw [if_neg (by omega)]
  by_cases e : l = h
  · obtain ⟨rfl, rfl⟩ := k4 e
    rw [if_pos e]; subst e; rfl
  · rw [if_neg e, k5 e]
def normS (x : Nm) : Nm := if x.1 = true then botS else makeS x.2.1 x.2.2.1 x.2.2.2.1 x.2.2.2.2
theorem norm_in {x : Nm} (h : Raw x) {v : Int} (hv : I64 v) : In (normS x) v ↔ In x v := by
  unfold normS
  cases hb : x.1 with
  | true => rw [if_pos rfl]; exact ⟨fun h => (in_bot v h).elim, fun h => by have := h.1; rw [hb] at this; simp at this⟩
  | false => rw [if_neg (by simp), make_in h.l h.h h.m h.r hv]; unfold In; rw [hb]; simp
theorem norm_nf {x : Nm} (h : Raw x) : NF (normS x) := by
  unfold normS
  split
  · exact .bot
  · exact make_nf h.l h.h h.m h.r
theorem norm_fix {x : Nm} (h : NF x) : normS x = x := by
  unfold normS
  obtain ⟨b, l, u, m, r⟩ := x
  cases b with
  | true => cases h; rfl
  | false => rw [if_neg (by simp)]; exact make_fix h
/-- what a normal form that is not Bot is -/
structure Nz (x : Nm) : Prop where
  b : x.1 = false
  w : Raw x
  le : x.2.1 ≤ x.2.2.1
  l : In x x.2.1
  h : In x x.2.2.1
  st : (x.2.1 = x.2.2.1 ∧ x.2.2.2.1 = 0) ∨ (0 < x.2.2.2.1 ∧ x.2.1 + x.2.2.2.1 ≤ x.2.2.1 ∧ In x (x.2.1 + x.2.2.2.1))
theorem NF.nz {x : Nm} (n : NF x) (h : x.1 = false) : Nz x := by
  cases n with
  | bot => simp [botS] at h
  | @one v hv => exact ⟨rfl, raw_const hv, Int.le_refl _, (in_const hv).2 rfl, (in_const hv).2 rfl, .inl ⟨rfl, rfl⟩⟩
  | @many l u m r hl hh hm hr lt m0 rm i1 i2 =>
    have i1' := i1
    have i2' := i2
    rw [B.has_iff] at i1 i2
    have hd : m ∣ u - l := by have := Int.dvd_sub i2 i1; rwa [show u - B.val m r - (l - B.val m r) = u - l by omega] at this
    have hle : m ≤ u - l := Int.le_of_dvd (by omega) hd
    refine ⟨rfl, ⟨hl, hh, hm, hr⟩, by show l ≤ u; omega, ⟨rfl, ⟨Int.le_refl _, by show l ≤ u; omega⟩, i1'⟩, ⟨rfl, ⟨by show l ≤ u; omega, Int.le_refl _⟩, i2'⟩, .inr ⟨m0, by show l + m ≤ u; omega, rfl, ⟨by show l ≤ l + m; omega, by show l + m ≤ u; omega⟩, ?_⟩⟩
    show B.hasS m r (l + m) = true
    rw [B.has_iff, show l + m - B.val m r = (l - B.val m r) + m by omega]
    exact Int.dvd_add i1 (Int.dvd_refl m)
def Sub (x y : Nm) : Prop := ∀ v, I64 v → In x v → In y v
theorem Sub.rfl' (x : Nm) : Sub x x := fun _ _ h => h
theorem Sub.trans {x y z : Nm} (h : Sub x y) (h' : Sub y z) : Sub x z := fun v hv i => h' v hv (h v hv i)
theorem nf_bot {x : Nm} (n : NF x) (h : x.1 = true) : x = botS := by cases n <;> simp_all [constS]
theorem nf_ne {x : Nm} (n : NF x) : x.1 = true ∨ Nz x := by
  cases h : x.1 with
  | true => exact .inl rfl
  | false => exact .inr (n.nz h)
/-- classes of a part -/
theorem sub_cls {x y : Nm} (hx : Nz x) (wy : Raw y) (h : Sub x y) : y.1 = false ∧ y.2.1 ≤ x.2.1 ∧ x.2.2.1 ≤ y.2.2.1 ∧ y.2.2.2.1 ∣ x.2.2.2.1 ∧ y.2.2.2.1 ∣ B.val x.2.2.2.1 x.2.2.2.2 - B.val y.2.2.2.1 y.2.2.2.2 := by
  have i1 := h _ hx.w.l hx.l
  have i2 := h _ hx.w.h hx.h
  have c1 := B.has_iff.1 i1.2.2
  have own := B.has_iff.1 hx.l.2.2
  have hm : y.2.2.2.1 ∣ x.2.2.2.1 := by
    rcases hx.st with e | ⟨m0, le, i3⟩
    · rw [e.2]; exact Int.dvd_zero _
    · have hI : I64 (x.2.1 + x.2.2.2.1) := by have a := hx.w.l; have b := hx.w.h; unfold I64 at *; omega
      have c2 := B.has_iff.1 (h _ hI i3).2.2
      have := Int.dvd_sub c2 c1
      rwa [show x.2.1 + x.2.2.2.1 - B.val y.2.2.2.1 y.2.2.2.2 - (x.2.1 - B.val y.2.2.2.1 y.2.2.2.2) = x.2.2.2.1 by omega] at this
  refine ⟨i1.1, i1.2.1.1, i2.2.1.2, hm, ?_⟩
  have := Int.dvd_sub c1 (Int.dvd_trans hm own)
  rwa [show x.2.1 - B.val y.2.2.2.1 y.2.2.2.2 - (x.2.1 - B.val x.2.2.2.1 x.2.2.2.2) = B.val x.2.2.2.1 x.2.2.2.2 - B.val y.2.2.2.1 y.2.2.2.2 by omega] at this
theorem bot_sub {x : Nm} (y : Nm) (h : x.1 = true) : Sub x y := fun v _ i => by have := i.1; rw [h] at this; simp at this
/-- the order, reckoned -/
def leqN (x y : Nm) : Bool := x.1 || (!y.1 && ((decide (y.2.1 ≤ x.2.1) && decide (x.2.2.1 ≤ y.2.2.1)) && B.leqS x.2.2.2.1 x.2.2.2.2 y.2.2.2.1 y.2.2.2.2))
def leqS (x y : Nm) : Bool := leqN (normS x) (normS y)
theorem norm_sub {x : Nm} (h : Raw x) : Sub (normS x) x ∧ Sub x (normS x) := ⟨fun v hv => (norm_in h hv).1, fun v hv => (norm_in h hv).2⟩
theorem sub_norm {x y : Nm} (hx : Raw x) (hy : Raw y) : Sub (normS x) (normS y) ↔ Sub x y :=
  ⟨fun h => (norm_sub hx).2.trans (h.trans (norm_sub hy).1), fun h => (norm_sub hx).1.trans (h.trans (norm_sub hy).2)⟩
/-- hulls -/
def joinN (x y : Nm) : Nm := if x.1 = true then y else if y.1 = true then x else
  makeS (if y.2.1 < x.2.1 then y.2.1 else x.2.1) (if y.2.2.1 > x.2.2.1 then y.2.2.1 else x.2.2.1) (B.joinS x.2.2.2.1 x.2.2.2.2 y.2.2.2.1 y.2.2.2.2).1 (B.joinS x.2.2.2.1 x.2.2.2.2 y.2.2.2.1 y.2.2.2.2).2
def joinS (x y : Nm) : Nm := joinN (normS x) (normS y)
theorem ite_I {p : Prop} [Decidable p] {a b : Int} (ha : I64 a) (hb : I64 b) : I64 (if p then a else b) := by split <;> assumption
theorem joinN_spec {x y : Nm} (nx : NF x) (ny : NF y) : Sub x (joinN x y) ∧ Sub y (joinN x y) ∧ ∀ z, NF z → Sub x z → Sub y z → Sub (joinN x y) z := by
  have a := nx.raw
  have b := ny.raw
  have j := B.join_spec a.m a.r b.m b.r
  unfold joinN
  by_cases bx : x.1 = true
  · rw [if_pos bx]; exact ⟨bot_sub y bx, Sub.rfl' y, fun z _ _ h => h⟩
  rw [if_neg bx]
  by_cases by' : y.1 = true
  · rw [if_pos by']; exact ⟨Sub.rfl' x, bot_sub x by', fun z _ h _ => h⟩
  rw [if_neg by']
  have zx := nx.nz (by simpa using bx)
  have zy := ny.nz (by simpa using by')
  obtain ⟨j1, j2, j3, j4, j5⟩ := j
  have d := (j3 _).1 (Int.dvd_refl _)
  have mk := fun (v : Int) (hv : I64 v) => make_in (v := v) (ite_I (p := y.2.1 < x.2.1) b.l a.l) (ite_I (p := y.2.2.1 > x.2.2.1) b.h a.h) j1 j2 hv
  generalize B.joinS x.2.2.2.1 x.2.2.2.2 y.2.2.2.1 y.2.2.2.2 = J at *
  refine ⟨fun v hv i => (mk v hv).2 ⟨⟨?_, ?_⟩, ?_⟩, fun v hv i => (mk v hv).2 ⟨⟨?_, ?_⟩, ?_⟩, fun z nz h1 h2 v hv i => ?_⟩
  · have := i.2.1; split <;> omega
  · have := i.2.1; split <;> omega
  · have := Int.dvd_sub (Int.dvd_trans d.1.1 (B.has_iff.1 i.2.2)) j4
    rw [B.has_iff]
    rwa [show v - B.val x.2.2.2.1 x.2.2.2.2 - (B.val J.1 J.2 - B.val x.2.2.2.1 x.2.2.2.2) = v - B.val J.1 J.2 by omega] at this
  · have := i.2.1; split <;> omega
  · have := i.2.1; split <;> omega
  · have := Int.dvd_sub (Int.dvd_sub (Int.dvd_trans d.1.2 (B.has_iff.1 i.2.2)) d.2) j4
    rw [B.has_iff]
    rwa [show v - B.val y.2.2.2.1 y.2.2.2.2 - (B.val x.2.2.2.1 x.2.2.2.2 - B.val y.2.2.2.1 y.2.2.2.2) - (B.val J.1 J.2 - B.val x.2.2.2.1 x.2.2.2.2) = v - B.val J.1 J.2 by omega] at this
  · have i := (mk v hv).1 i
    obtain ⟨p1, p2, p3, p4, p5⟩ := sub_cls zx nz.raw h1
    obtain ⟨q1, q2, q3, q4, q5⟩ := sub_cls zy nz.raw h2
    refine ⟨p1, ⟨?_, ?_⟩, ?_⟩
    · have := i.1.1; split at this <;> omega
    · have := i.1.2; split at this <;> omega
    · have hc : z.2.2.2.1 ∣ J.1 := (j3 _).2 ⟨⟨p4, q4⟩, by
        have := Int.dvd_sub p5 q5
        rwa [show B.val x.2.2.2.1 x.2.2.2.2 - B.val z.2.2.2.1 z.2.2.2.2 - (B.val y.2.2.2.1 y.2.2.2.2 - B.val z.2.2.2.1 z.2.2.2.2) = B.val x.2.2.2.1 x.2.2.2.2 - B.val y.2.2.2.1 y.2.2.2.2 by omega] at this⟩
      have := Int.dvd_add (Int.dvd_add (Int.dvd_trans hc (B.has_iff.1 i.2)) (Int.dvd_trans hc j4)) p5
      rw [B.has_iff]
      rwa [show v - B.val J.1 J.2 + (B.val J.1 J.2 - B.val x.2.2.2.1 x.2.2.2.2) + (B.val x.2.2.2.1 x.2.2.2.2 - B.val z.2.2.2.1 z.2.2.2.2) = v - B.val z.2.2.2.1 z.2.2.2.2 by omega] at this
theorem join_spec {x y : Nm} (hx : Raw x) (hy : Raw y) : Sub x (joinS x y) ∧ Sub y (joinS x y) ∧ ∀ z, Raw z → Sub x z → Sub y z → Sub (joinS x y) z := by
  obtain ⟨h1, h2, h3⟩ := joinN_spec (norm_nf hx) (norm_nf hy)
  exact ⟨(norm_sub hx).2.trans h1, (norm_sub hy).2.trans h2, fun z hz p q =>
    (h3 _ (norm_nf hz) ((sub_norm hx hz).2 p) ((sub_norm hy hz).2 q)).trans (norm_sub hz).1⟩
/-- common parts -/
noncomputable def meetN (x y : Nm) : Nm := if x.1 = true ∨ y.1 = true ∨ (B.meetS x.2.2.2.1 x.2.2.2.2 y.2.2.2.1 y.2.2.2.2).2.2 = false then botS else
  makeS (A.mt x.2.1 x.2.2.1 y.2.1 y.2.2.1).1 (A.mt x.2.1 x.2.2.1 y.2.1 y.2.2.1).2 (B.meetS x.2.2.2.1 x.2.2.2.2 y.2.2.2.1 y.2.2.2.2).1 (B.meetS x.2.2.2.1 x.2.2.2.2 y.2.2.2.1 y.2.2.2.2).2.1
noncomputable def meetS (x y : Nm) : Nm := meetN (normS x) (normS y)
/-- without 0 at an end -/
def nzN (x : Nm) : Nm := if x.1 = true then x else makeS (if x.2.1 = 0 then 1 else x.2.1) (if x.2.2.1 = 0 then -1 else x.2.2.1) x.2.2.2.1 x.2.2.2.2
def nzS (x : Nm) : Nm := nzN (normS x)
theorem I1 : I64 1 := by unfold I64; omega
theorem In1 : I64 (-1) := by unfold I64; omega
theorem nzN_nf {x : Nm} (n : NF x) : NF (nzN x) := by
  have a := n.raw
  unfold nzN
  split
  · exact n
  · exact make_nf (ite_I I1 a.l) (ite_I In1 a.h) a.m a.r
theorem nzN_in {x : Nm} (n : NF x) {v : Int} (hv : I64 v) : In (nzN x) v ↔ In x v ∧ (v = 0 → x.2.1 ≠ 0 ∧ x.2.2.1 ≠ 0) := by
  have a := n.raw
  unfold nzN
  by_cases h : x.1 = true
  · rw [if_pos h]
    exact ⟨fun i => by have := i.1; rw [h] at this; simp at this, fun i => i.1⟩
  · rw [if_neg h, make_in (ite_I I1 a.l) (ite_I In1 a.h) a.m a.r hv]
    unfold In
    have hb : x.1 = false := by simpa using h
    rw [hb]
    simp only [true_and]
    constructor
    · rintro ⟨⟨h1, h2⟩, h3⟩
      refine ⟨⟨⟨?_, ?_⟩, h3⟩, ?_⟩
      · split at h1 <;> omega
      · split at h2 <;> omega
      · rintro rfl
        constructor
        · intro e; rw [if_pos e] at h1; omega
        · intro e; rw [if_pos e] at h2; omega
    · rintro ⟨⟨⟨h1, h2⟩, h3⟩, h4⟩
      refine ⟨⟨?_, ?_⟩, h3⟩
      · split
        · rename_i e
          by_cases v0 : v = 0
          · exact ((h4 v0).1 e).elim
          · omega
        · exact h1
      · split
        · rename_i e
          by_cases v0 : v = 0
          · exact ((h4 v0).2 e).elim
          · omega
        · exact h2
end Go.Proofs.YtonpbbhlmapbdaaGreatDoor.V
