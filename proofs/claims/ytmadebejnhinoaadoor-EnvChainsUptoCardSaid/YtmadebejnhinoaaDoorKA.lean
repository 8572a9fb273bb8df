/- Numbers of chapter 13 as sets: normal forms, order, join, meet, without 0; Results of numbers within are within the answers; What the functions of chapter 13 compute, the program's and the document's: the same; Operators on numbers of chapter 13: the program's are the document's, and hold of the numbers; Apply of chapter 13, the program's and the document's; The document's Apply of chapter 13; The fixed facts of chapter 13's statements, and the statement's own words for numbers; One of a number's numbers, picked; results; order, join and meet told as equalities; Operators on single numbers. Conditions: none. -/
import Derived.Test.YtmadebejnhinoaaDoorBA
import Derived.Test.YtmadebejnhinoaaDoorEB

set_option linter.unusedVariables false
set_option linter.unusedSimpArgs false
namespace Go.Proofs.YtmadebejnhinoaaDoor.V
open Go Go.Wk Go.RowKit

abbrev Nm := Bool × Int × Int × Int × Int
def botS : Nm := (true, 0, 0, 0, 0)
def makeS (lo hi m r : Int) : Nm :=
  if hi < lo ∨ (B.upS m r lo).2 = false ∨ (B.dnS m r hi).2 = false ∨ (B.dnS m r hi).1 < (B.upS m r lo).1 then botS
  else if (B.upS m r lo).1 = (B.dnS m r hi).1 then (false, (B.upS m r lo).1, (B.upS m r lo).1, 0, IntKind.u64.wrap (B.upS m r lo).1)
  else (false, (B.upS m r lo).1, (B.dnS m r hi).1, m, B.nr m r)
def constS (v : Int) : Nm := (false, v, v, 0, IntKind.u64.wrap v)
structure Raw (x : Nm) : Prop where
  l : I64 x.2.1
  h : I64 x.2.2.1
  m : U64 x.2.2.2.1
  r : U64 x.2.2.2.2
def In (x : Nm) (v : Int) : Prop := x.1 = false ∧ (x.2.1 ≤ v ∧ v ≤ x.2.2.1) ∧ B.hasS x.2.2.2.1 x.2.2.2.2 v = true
instance (x : Nm) (v : Int) : Decidable (In x v) := inferInstanceAs (Decidable (_ ∧ _))
/-- normal form -/
inductive NF : Nm → Prop
  | bot : NF botS
  | one {v : Int} (h : I64 v) : NF (constS v)
  | many {l h m r : Int} (hl : I64 l) (hh : I64 h) (hm : U64 m) (hr : U64 r) (lt : l < h) (m0 : 0 < m) (rm : r < m) (inl : B.hasS m r l = true) (inh : B.hasS m r h = true) : NF (false, l, h, m, r)
theorem wu_U (x : Int) : U64 (IntKind.u64.wrap x) := by unfold U64; rw [wu_eq]; omega
theorem U0 : U64 0 := by unfold U64; omega
theorem U1 : U64 1 := by unfold U64; omega
theorem I0 : I64 0 := by unfold I64; omega
theorem val_const {v : Int} (h : I64 v) : B.val 0 (IntKind.u64.wrap v) = v := B.val0 h
theorem has_const {u v : Int} (h : I64 u) : B.hasS 0 (IntKind.u64.wrap u) v = true ↔ v = u := by
  rw [B.has_iff, val_const h, Int.zero_dvd]; omega
theorem has_one (v : Int) : B.hasS 1 0 v = true := by rw [B.has_iff]; exact Int.one_dvd _
theorem raw_bot : Raw botS := ⟨I0, I0, U0, U0⟩
theorem raw_const {v : Int} (h : I64 v) : Raw (constS v) := ⟨h, h, U0, wu_U v⟩
theorem NF.raw {x : Nm} (h : NF x) : Raw x := by
  cases h with
  | bot => exact raw_bot
  | one h => exact raw_const h
  | many hl hh hm hr => exact ⟨hl, hh, hm, hr⟩
theorem in_bot (v : Int) : ¬ In botS v := fun h => by have := h.1; simp [botS] at this
theorem in_const {u v : Int} (h : I64 u) : In (constS u) v ↔ v = u := by
  unfold In constS
  simp only [true_and]
  rw [has_const h]
  omega
theorem make_in {lo hi m r v : Int} (hl : I64 lo) (hh : I64 hi) (hm : U64 m) (hr : U64 r) (hv : I64 v) :
    In (makeS lo hi m r) v ↔ (lo ≤ v ∧ v ≤ hi) ∧ B.hasS m r v = true := by
  obtain ⟨u1, u2, u3, u4⟩ := B.up_spec hm hr hl
  obtain ⟨d1, d2, d3, d4⟩ := B.dn_spec hm hr hh
  unfold makeS
  by_cases hb : hi < lo ∨ (B.upS m r lo).2 = false ∨ (B.dnS m r hi).2 = false ∨ (B.dnS m r hi).1 < (B.upS m r lo).1
  · rw [if_pos hb]
    refine ⟨fun h => (in_bot v h).elim, fun ⟨⟨h1, h2⟩, h3⟩ => ?_⟩
    have a := u4 v hv h1 h3
    have b := d4 v hv h2 h3
    rcases hb with hb | hb | hb | hb
    · omega
    · rw [hb] at a; simp at a
    · rw [hb] at b; simp at b
    · omega
  · rw [if_neg hb]
    simp only [not_or, Bool.not_eq_false] at hb
    obtain ⟨b1, b2, b3, b4⟩ := hb
    have u2 := u2 b2
    have d2 := d2 b3
    by_cases e : (B.upS m r lo).1 = (B.dnS m r hi).1
    · rw [if_pos e]
      show In (constS _) v ↔ _
      rw [in_const u1]
      constructor
      · intro h; rw [h]; exact ⟨⟨u2.1, by omega⟩, u2.2⟩
      · rintro ⟨⟨h1, h2⟩, h3⟩
        have a := (u4 v hv h1 h3).2
        have b := (d4 v hv h2 h3).2
        omega
    · rw [if_neg e]
      unfold In
      simp only [true_and, B.hasS_nr]
      constructor
      · rintro ⟨⟨h1, h2⟩, h3⟩; exact ⟨⟨by omega, by omega⟩, h3⟩
      · rintro ⟨⟨h1, h2⟩, h3⟩; exact ⟨⟨(u4 v hv h1 h3).2, (d4 v hv h2 h3).2⟩, h3⟩
theorem make_nf {lo hi m r : Int} (hl : I64 lo) (hh : I64 hi) (hm : U64 m) (hr : U64 r) : NF (makeS lo hi m r) := by
  obtain ⟨u1, u2, u3, u4⟩ := B.up_spec hm hr hl
  obtain ⟨d1, d2, d3, d4⟩ := B.dn_spec hm hr hh
  unfold makeS
  by_cases hb : hi < lo ∨ (B.upS m r lo).2 = false ∨ (B.dnS m r hi).2 = false ∨ (B.dnS m r hi).1 < (B.upS m r lo).1
  · rw [if_pos hb]; exact .bot
  · rw [if_neg hb]
    simp only [not_or, Bool.not_eq_false] at hb
    obtain ⟨b1, b2, b3, b4⟩ := hb
    have u2 := u2 b2
    have d2 := d2 b3
    by_cases e : (B.upS m r lo).1 = (B.dnS m r hi).1
    · rw [if_pos e]; exact .one u1
    · rw [if_neg e]
      have m0 : m ≠ 0 := by
        rintro rfl
        have a := u2.2
        have b := d2.2
        rw [B.has_iff, Int.zero_dvd] at a b
        omega
      have hn := B.nr_b (r := r) m0 hm
      exact .many u1 d1 hm (B.nr_U hm hr) (by omega) (by unfold U64 at hm; omega) hn.2 (by rw [B.hasS_nr]; exact u2.2) (by rw [B.hasS_nr]; exact d2.2)
theorem up_at {m r v : Int} (hm : U64 m) (hr : U64 r) (hv : I64 v) (h : B.hasS m r v = true) : B.upS m r v = (v, true) := by
  obtain ⟨u1, u2, u3, u4⟩ := B.up_spec hm hr hv
  have a := u4 v hv (Int.le_refl _) h
  have b := (u2 a.1).1
  exact Prod.ext (by omega) a.1
theorem dn_at {m r v : Int} (hm : U64 m) (hr : U64 r) (hv : I64 v) (h : B.hasS m r v = true) : B.dnS m r v = (v, true) := by
  obtain ⟨u1, u2, u3, u4⟩ := B.dn_spec hm hr hv
  have a := u4 v hv (Int.le_refl _) h
  have b := (u2 a.1).1
  exact Prod.ext (by omega) a.1
theorem make_const {v : Int} (hv : I64 v) : makeS v v 1 0 = constS v := by
  unfold makeS
  rw [up_at U1 U0 hv (has_one v), dn_at U1 U0 hv (has_one v)]
  simp [constS]
theorem make_fix {l h m r : Int} (n : NF (false, l, h, m, r)) : makeS l h m r = (false, l, h, m, r) := by
  have hr := n.raw
  have key : B.hasS m r l = true ∧ B.hasS m r h = true ∧ l ≤ h ∧ (l = h → m = 0 ∧ r = IntKind.u64.wrap l) ∧ (l ≠ h → B.nr m r = r) := by
    generalize hx : ((false, l, h, m, r) : Nm) = x at n
    cases n with
    | bot => simp [botS] at hx
    | @one v hv =>
      simp only [constS, Prod.mk.injEq, true_and] at hx
      obtain ⟨rfl, rfl, rfl, rfl⟩ := hx
      exact ⟨(has_const hv).2 rfl, (has_const hv).2 rfl, Int.le_refl _, fun _ => ⟨rfl, rfl⟩, fun h => (h rfl).elim⟩
    | many hl hh hm hr lt m0 rm i1 i2 =>
      simp only [Prod.mk.injEq, true_and] at hx
      obtain ⟨rfl, rfl, rfl, rfl⟩ := hx
      refine ⟨i1, i2, by omega, fun e => by omega, fun _ => ?_⟩
      unfold B.nr
      rw [if_neg (by omega), Int.emod_eq_of_lt hr.1 rm]
  obtain ⟨k1, k2, k3, k4, k5⟩ := key
  unfold makeS
  rw [up_at hr.m hr.r hr.l k1, dn_at hr.m hr.r hr.h k2]
  simp only [Bool.true_eq_false, false_or]
  rw [if_neg (by omega)]
  by_cases e : l = h
  · obtain ⟨rfl, rfl⟩ := k4 e
    rw [if_pos e]; subst e; rfl
  · rw [if_neg e, k5 e]
def normS (x : Nm) : Nm := if x.1 = true then botS else makeS x.2.1 x.2.2.1 x.2.2.2.1 x.2.2.2.2
theorem norm_in {x : Nm} (h : Raw x) {v : Int} (hv : I64 v) : In (normS x) v ↔ In x v := by
  unfold normS
  cases hb : x.1 with
  | true => rw [if_pos rfl]; exact ⟨fun h => (in_bot v h).elim, fun h => by have := h.1; rw [hb] at this; simp at this⟩
  | false => rw [if_neg (by simp), make_in h.l h.h h.m h.r hv]; unfold In; rw [hb]; simp
theorem norm_nf {x : Nm} (h : Raw x) : NF (normS x) := by
  unfold normS
  split
  · exact .bot
  · exact make_nf h.l h.h h.m h.r
theorem norm_fix {x : Nm} (h : NF x) : normS x = x := by
  unfold normS
  obtain ⟨b, l, u, m, r⟩ := x
  cases b with
  | true => cases h; rfl
  | false => rw [if_neg (by simp)]; exact make_fix h
theorem norm_raw {x : Nm} (h : Raw x) : Raw (normS x) := (norm_nf h).raw

/-- what a normal form that is not Bot is -/
structure Nz (x : Nm) : Prop where
  b : x.1 = false
  w : Raw x
  le : x.2.1 ≤ x.2.2.1
  l : In x x.2.1
  h : In x x.2.2.1
  st : (x.2.1 = x.2.2.1 ∧ x.2.2.2.1 = 0) ∨ (0 < x.2.2.2.1 ∧ x.2.1 + x.2.2.2.1 ≤ x.2.2.1 ∧ In x (x.2.1 + x.2.2.2.1))
theorem NF.nz {x : Nm} (n : NF x) (h : x.1 = false) : Nz x := by
  cases n with
  | bot => simp [botS] at h
  | @one v hv => exact ⟨rfl, raw_const hv, Int.le_refl _, (in_const hv).2 rfl, (in_const hv).2 rfl, .inl ⟨rfl, rfl⟩⟩
  | @many l u m r hl hh hm hr lt m0 rm i1 i2 =>
    have i1' := i1
    have i2' := i2
    rw [B.has_iff] at i1 i2
    have hd : m ∣ u - l := by have := Int.dvd_sub i2 i1; rwa [show u - B.val m r - (l - B.val m r) = u - l by omega] at this
    have hle : m ≤ u - l := Int.le_of_dvd (by omega) hd
    refine ⟨rfl, ⟨hl, hh, hm, hr⟩, by show l ≤ u; omega, ⟨rfl, ⟨Int.le_refl _, by show l ≤ u; omega⟩, i1'⟩, ⟨rfl, ⟨by show l ≤ u; omega, Int.le_refl _⟩, i2'⟩, .inr ⟨m0, by show l + m ≤ u; omega, rfl, ⟨by show l ≤ l + m; omega, by show l + m ≤ u; omega⟩, ?_⟩⟩
    show B.hasS m r (l + m) = true
    rw [B.has_iff, show l + m - B.val m r = (l - B.val m r) + m by omega]
    exact Int.dvd_add i1 (Int.dvd_refl m)
def Sub (x y : Nm) : Prop := ∀ v, I64 v → In x v → In y v
theorem Sub.rfl' (x : Nm) : Sub x x := fun _ _ h => h
theorem Sub.trans {x y z : Nm} (h : Sub x y) (h' : Sub y z) : Sub x z := fun v hv i => h' v hv (h v hv i)
theorem nf_bot {x : Nm} (n : NF x) (h : x.1 = true) : x = botS := by cases n <;> simp_all [constS]
theorem nf_ne {x : Nm} (n : NF x) : x.1 = true ∨ Nz x := by
  cases h : x.1 with
  | true => exact .inl rfl
  | false => exact .inr (n.nz h)
/-- classes of a part -/
theorem sub_cls {x y : Nm} (hx : Nz x) (wy : Raw y) (h : Sub x y) : y.1 = false ∧ y.2.1 ≤ x.2.1 ∧ x.2.2.1 ≤ y.2.2.1 ∧ y.2.2.2.1 ∣ x.2.2.2.1 ∧ y.2.2.2.1 ∣ B.val x.2.2.2.1 x.2.2.2.2 - B.val y.2.2.2.1 y.2.2.2.2 := by
  have i1 := h _ hx.w.l hx.l
  have i2 := h _ hx.w.h hx.h
  have c1 := B.has_iff.1 i1.2.2
  have own := B.has_iff.1 hx.l.2.2
  have hm : y.2.2.2.1 ∣ x.2.2.2.1 := by
    rcases hx.st with e | ⟨m0, le, i3⟩
    · rw [e.2]; exact Int.dvd_zero _
    · have hI : I64 (x.2.1 + x.2.2.2.1) := by have a := hx.w.l; have b := hx.w.h; unfold I64 at *; omega
      have c2 := B.has_iff.1 (h _ hI i3).2.2
      have := Int.dvd_sub c2 c1
      rwa [show x.2.1 + x.2.2.2.1 - B.val y.2.2.2.1 y.2.2.2.2 - (x.2.1 - B.val y.2.2.2.1 y.2.2.2.2) = x.2.2.2.1 by omega] at this
  refine ⟨i1.1, i1.2.1.1, i2.2.1.2, hm, ?_⟩
  have := Int.dvd_sub c1 (Int.dvd_trans hm own)
  rwa [show x.2.1 - B.val y.2.2.2.1 y.2.2.2.2 - (x.2.1 - B.val x.2.2.2.1 x.2.2.2.2) = B.val x.2.2.2.1 x.2.2.2.2 - B.val y.2.2.2.1 y.2.2.2.2 by omega] at this
theorem sub_of {x y : Nm} (hb : y.1 = false) (h1 : y.2.1 ≤ x.2.1) (h2 : x.2.2.1 ≤ y.2.2.1) (h3 : y.2.2.2.1 ∣ x.2.2.2.1) (h4 : y.2.2.2.1 ∣ B.val x.2.2.2.1 x.2.2.2.2 - B.val y.2.2.2.1 y.2.2.2.2) : Sub x y := by
  rintro v hv ⟨_, ⟨i1, i2⟩, i3⟩
  refine ⟨hb, ⟨by omega, by omega⟩, B.has_iff.2 ?_⟩
  have := Int.dvd_add (Int.dvd_trans h3 (B.has_iff.1 i3)) h4
  rwa [show v - B.val x.2.2.2.1 x.2.2.2.2 + (B.val x.2.2.2.1 x.2.2.2.2 - B.val y.2.2.2.1 y.2.2.2.2) = v - B.val y.2.2.2.1 y.2.2.2.2 by omega] at this
theorem bot_sub {x : Nm} (y : Nm) (h : x.1 = true) : Sub x y := fun v _ i => by have := i.1; rw [h] at this; simp at this
/-- normal forms with the same numbers are one -/
theorem nf_ext {x y : Nm} (nx : NF x) (ny : NF y) (h1 : Sub x y) (h2 : Sub y x) : x = y := by
  rcases nf_ne nx with bx | zx
  · rcases nf_ne ny with by' | zy
    · rw [nf_bot nx bx, nf_bot ny by']
    · have := (h2 _ zy.w.l zy.l).1; rw [bx] at this; simp at this
  · rcases nf_ne ny with by' | zy
    · have := (h1 _ zx.w.l zx.l).1; rw [by'] at this; simp at this
    · obtain ⟨_, a1, a2, a3, a4⟩ := sub_cls zx zy.w h1
      obtain ⟨_, b1, b2, b3, b4⟩ := sub_cls zy zx.w h2
      have em : x.2.2.2.1 = y.2.2.2.1 := Int.dvd_antisymm zx.w.m.1 zy.w.m.1 b3 a3
      cases nx with
      | bot => have := zx.b; simp [botS] at this
      | @one v hv =>
        cases ny with
        | bot => have := zy.b; simp [botS] at this
        | @one w hw => have e : v = w := by simp only [constS] at a1 b1; omega
                       rw [e]
        | many hl hh hm hr lt m0 rm i1 i2 => simp only [constS] at em; omega
      | @many l u m r hl hh hm hr lt m0 rm i1 i2 =>
        cases ny with
        | bot => have := zy.b; simp [botS] at this
        | @one w hw => simp only [constS] at em; omega
        | @many l' u' m' r' hl' hh' hm' hr' lt' m0' rm' i1' i2' =>
          simp only at em a1 a2 b1 b2 a4
          subst em
          have e1 : l = l' := by omega
          have e2 : u = u' := by omega
          have e3 : r = r' := B.val_inj hm.1 hr hr' (.inr rm) (.inr rm') a4
          rw [e1, e2, e3]
theorem nf_iff {x y : Nm} (nx : NF x) (ny : NF y) (h : ∀ v, I64 v → (In x v ↔ In y v)) : x = y := nf_ext nx ny (fun v hv => (h v hv).1) (fun v hv => (h v hv).2)
/-- the order, reckoned -/
def leqN (x y : Nm) : Bool := x.1 || (!y.1 && ((decide (y.2.1 ≤ x.2.1) && decide (x.2.2.1 ≤ y.2.2.1)) && B.leqS x.2.2.2.1 x.2.2.2.2 y.2.2.2.1 y.2.2.2.2))
theorem leqN_iff {x y : Nm} (nx : NF x) (ny : NF y) : leqN x y = true ↔ Sub x y := by
  rcases nf_ne nx with bx | zx
  · unfold leqN; rw [bx]; exact ⟨fun _ => bot_sub y bx, fun _ => rfl⟩
  · unfold leqN; rw [zx.b]
    simp only [Bool.false_or, Bool.and_eq_true, Bool.not_eq_true', decide_eq_true_eq, B.leq_iff zx.w.r ny.raw.r]
    constructor
    · rintro ⟨h1, ⟨h2, h3⟩, h4, h5⟩; exact sub_of h1 h2 h3 h4 h5
    · intro h
      obtain ⟨h1, h2, h3, h4, h5⟩ := sub_cls zx ny.raw h
      exact ⟨h1, ⟨h2, h3⟩, h4, h5⟩
def leqS (x y : Nm) : Bool := leqN (normS x) (normS y)
theorem norm_sub {x : Nm} (h : Raw x) : Sub (normS x) x ∧ Sub x (normS x) := ⟨fun v hv => (norm_in h hv).1, fun v hv => (norm_in h hv).2⟩
theorem sub_norm {x y : Nm} (hx : Raw x) (hy : Raw y) : Sub (normS x) (normS y) ↔ Sub x y :=
  ⟨fun h => (norm_sub hx).2.trans (h.trans (norm_sub hy).1), fun h => (norm_sub hx).1.trans (h.trans (norm_sub hy).2)⟩
theorem leq_iff {x y : Nm} (hx : Raw x) (hy : Raw y) : leqS x y = true ↔ Sub x y := by
  unfold leqS; rw [leqN_iff (norm_nf hx) (norm_nf hy), sub_norm hx hy]
/-- hulls -/
def joinN (x y : Nm) : Nm := if x.1 = true then y else if y.1 = true then x else
  makeS (if y.2.1 < x.2.1 then y.2.1 else x.2.1) (if y.2.2.1 > x.2.2.1 then y.2.2.1 else x.2.2.1) (B.joinS x.2.2.2.1 x.2.2.2.2 y.2.2.2.1 y.2.2.2.2).1 (B.joinS x.2.2.2.1 x.2.2.2.2 y.2.2.2.1 y.2.2.2.2).2
def joinS (x y : Nm) : Nm := joinN (normS x) (normS y)
theorem ite_I {p : Prop} [Decidable p] {a b : Int} (ha : I64 a) (hb : I64 b) : I64 (if p then a else b) := by split <;> assumption
theorem joinN_nf {x y : Nm} (nx : NF x) (ny : NF y) : NF (joinN x y) := by
  have a := nx.raw
  have b := ny.raw
  have j := B.join_spec a.m a.r b.m b.r
  unfold joinN
  split
  · exact ny
  · split
    · exact nx
    · exact make_nf (ite_I b.l a.l) (ite_I b.h a.h) j.1 j.2.1
theorem joinN_spec {x y : Nm} (nx : NF x) (ny : NF y) : Sub x (joinN x y) ∧ Sub y (joinN x y) ∧ ∀ z, NF z → Sub x z → Sub y z → Sub (joinN x y) z := by
  have a := nx.raw
  have b := ny.raw
  have j := B.join_spec a.m a.r b.m b.r
  unfold joinN
  by_cases bx : x.1 = true
  · rw [if_pos bx]; exact ⟨bot_sub y bx, Sub.rfl' y, fun z _ _ h => h⟩
  rw [if_neg bx]
  by_cases by' : y.1 = true
  · rw [if_pos by']; exact ⟨Sub.rfl' x, bot_sub x by', fun z _ h _ => h⟩
  rw [if_neg by']
  have zx := nx.nz (by simpa using bx)
  have zy := ny.nz (by simpa using by')
  obtain ⟨j1, j2, j3, j4, j5⟩ := j
  have d := (j3 _).1 (Int.dvd_refl _)
  have mk := fun (v : Int) (hv : I64 v) => make_in (v := v) (ite_I (p := y.2.1 < x.2.1) b.l a.l) (ite_I (p := y.2.2.1 > x.2.2.1) b.h a.h) j1 j2 hv
  generalize B.joinS x.2.2.2.1 x.2.2.2.2 y.2.2.2.1 y.2.2.2.2 = J at *
  refine ⟨fun v hv i => (mk v hv).2 ⟨⟨?_, ?_⟩, ?_⟩, fun v hv i => (mk v hv).2 ⟨⟨?_, ?_⟩, ?_⟩, fun z nz h1 h2 v hv i => ?_⟩
  · have := i.2.1; split <;> omega
  · have := i.2.1; split <;> omega
  · have := Int.dvd_sub (Int.dvd_trans d.1.1 (B.has_iff.1 i.2.2)) j4
    rw [B.has_iff]
    rwa [show v - B.val x.2.2.2.1 x.2.2.2.2 - (B.val J.1 J.2 - B.val x.2.2.2.1 x.2.2.2.2) = v - B.val J.1 J.2 by omega] at this
  · have := i.2.1; split <;> omega
  · have := i.2.1; split <;> omega
  · have := Int.dvd_sub (Int.dvd_sub (Int.dvd_trans d.1.2 (B.has_iff.1 i.2.2)) d.2) j4
    rw [B.has_iff]
    rwa [show v - B.val y.2.2.2.1 y.2.2.2.2 - (B.val x.2.2.2.1 x.2.2.2.2 - B.val y.2.2.2.1 y.2.2.2.2) - (B.val J.1 J.2 - B.val x.2.2.2.1 x.2.2.2.2) = v - B.val J.1 J.2 by omega] at this
  · have i := (mk v hv).1 i
    obtain ⟨p1, p2, p3, p4, p5⟩ := sub_cls zx nz.raw h1
    obtain ⟨q1, q2, q3, q4, q5⟩ := sub_cls zy nz.raw h2
    refine ⟨p1, ⟨?_, ?_⟩, ?_⟩
    · have := i.1.1; split at this <;> omega
    · have := i.1.2; split at this <;> omega
    · have hc : z.2.2.2.1 ∣ J.1 := (j3 _).2 ⟨⟨p4, q4⟩, by
        have := Int.dvd_sub p5 q5
        rwa [show B.val x.2.2.2.1 x.2.2.2.2 - B.val z.2.2.2.1 z.2.2.2.2 - (B.val y.2.2.2.1 y.2.2.2.2 - B.val z.2.2.2.1 z.2.2.2.2) = B.val x.2.2.2.1 x.2.2.2.2 - B.val y.2.2.2.1 y.2.2.2.2 by omega] at this⟩
      have := Int.dvd_add (Int.dvd_add (Int.dvd_trans hc (B.has_iff.1 i.2)) (Int.dvd_trans hc j4)) p5
      rw [B.has_iff]
      rwa [show v - B.val J.1 J.2 + (B.val J.1 J.2 - B.val x.2.2.2.1 x.2.2.2.2) + (B.val x.2.2.2.1 x.2.2.2.2 - B.val z.2.2.2.1 z.2.2.2.2) = v - B.val z.2.2.2.1 z.2.2.2.2 by omega] at this
theorem join_nf {x y : Nm} (hx : Raw x) (hy : Raw y) : NF (joinS x y) := joinN_nf (norm_nf hx) (norm_nf hy)
theorem join_spec {x y : Nm} (hx : Raw x) (hy : Raw y) : Sub x (joinS x y) ∧ Sub y (joinS x y) ∧ ∀ z, Raw z → Sub x z → Sub y z → Sub (joinS x y) z := by
  obtain ⟨h1, h2, h3⟩ := joinN_spec (norm_nf hx) (norm_nf hy)
  exact ⟨(norm_sub hx).2.trans h1, (norm_sub hy).2.trans h2, fun z hz p q =>
    (h3 _ (norm_nf hz) ((sub_norm hx hz).2 p) ((sub_norm hy hz).2 q)).trans (norm_sub hz).1⟩
/-- common parts -/
noncomputable def meetN (x y : Nm) : Nm := if x.1 = true ∨ y.1 = true ∨ (B.meetS x.2.2.2.1 x.2.2.2.2 y.2.2.2.1 y.2.2.2.2).2.2 = false then botS else
  makeS (A.mt x.2.1 x.2.2.1 y.2.1 y.2.2.1).1 (A.mt x.2.1 x.2.2.1 y.2.1 y.2.2.1).2 (B.meetS x.2.2.2.1 x.2.2.2.2 y.2.2.2.1 y.2.2.2.2).1 (B.meetS x.2.2.2.1 x.2.2.2.2 y.2.2.2.1 y.2.2.2.2).2.1
noncomputable def meetS (x y : Nm) : Nm := meetN (normS x) (normS y)
theorem meetN_raw {x y : Nm} (a : Raw x) (b : Raw y) : NF (meetN x y) ∧ ∀ v, I64 v → (In (meetN x y) v ↔ In x v ∧ In y v) := by
  obtain ⟨j1, j2, j3, j4, j5⟩ := B.meet_spec a.m a.r b.m b.r
  have mi := A.mt_I a.l a.h b.l b.h
  unfold meetN
  by_cases hc : x.1 = true ∨ y.1 = true ∨ (B.meetS x.2.2.2.1 x.2.2.2.2 y.2.2.2.1 y.2.2.2.2).2.2 = false
  · rw [if_pos hc]
    refine ⟨.bot, fun v hv => ⟨fun h => (in_bot v h).elim, fun ⟨h1, h2⟩ => ?_⟩⟩
    rcases hc with h | h | h
    · have := h1.1; rw [h] at this; simp at this
    · have := h2.1; rw [h] at this; simp at this
    · have := ((j5 v hv).2 ⟨h1.2.2, h2.2.2⟩).1; rw [h] at this; simp at this
  · rw [if_neg hc]
    simp only [not_or, Bool.not_eq_true, Bool.not_eq_false] at hc
    refine ⟨make_nf mi.1 mi.2 j1 j2, fun v hv => ?_⟩
    rw [make_in mi.1 mi.2 j1 j2 hv, A.mt_mem]
    have := j5 v hv
    rw [hc.2.2] at this
    unfold In
    simp only [true_and] at this
    rw [this, hc.1, hc.2.1]
    simp only [true_and]
    constructor
    · rintro ⟨⟨h1, h2, h3, h4⟩, h5, h6⟩; exact ⟨⟨⟨h1, h2⟩, h5⟩, ⟨h3, h4⟩, h6⟩
    · rintro ⟨⟨⟨h1, h2⟩, h5⟩, ⟨h3, h4⟩, h6⟩; exact ⟨⟨h1, h2, h3, h4⟩, h5, h6⟩
theorem meet_nf {x y : Nm} (hx : Raw x) (hy : Raw y) : NF (meetS x y) := (meetN_raw (norm_raw hx) (norm_raw hy)).1
theorem meet_in {x y : Nm} (hx : Raw x) (hy : Raw y) {v : Int} (hv : I64 v) : In (meetS x y) v ↔ In x v ∧ In y v := by
  unfold meetS; rw [(meetN_raw (norm_raw hx) (norm_raw hy)).2 v hv, norm_in hx hv, norm_in hy hv]
end Go.Proofs.YtmadebejnhinoaaDoor.V


set_option linter.unusedVariables false
set_option linter.unusedSimpArgs false
namespace Go.Proofs.YtmadebejnhinoaaDoor.V.A
open Go Go.Wk

/-- a product lies between the products of the ends -/
theorem mul_one {x c d y : Int} (h1 : c ≤ y) (h2 : y ≤ d) : min (x * c) (x * d) ≤ x * y ∧ x * y ≤ max (x * c) (x * d) := by
  rcases Int.le_total 0 x with hx | hx
  · have := Int.mul_le_mul_of_nonneg_left h1 hx
    have := Int.mul_le_mul_of_nonneg_left h2 hx
    omega
  · have := Int.mul_le_mul_of_nonpos_left hx h1
    have := Int.mul_le_mul_of_nonpos_left hx h2
    omega
open Go Go.Wk

end Go.Proofs.YtmadebejnhinoaaDoor.V.A


set_option linter.unusedVariables false
set_option linter.unusedSimpArgs false
namespace Go.Proofs.YtmadebejnhinoaaDoor.V
open Go Go.Wk Go.RowKit

theorem far1_nr {m : Int} (r v : Int) (h : m ≠ 0) : B.far1 m (B.nr m r) v = B.far1 m r v := by
  unfold B.far1 B.nr
  rw [if_neg h, Int.sub_emod, Int.emod_emod_of_dvd _ (Int.dvd_refl m), ← Int.sub_emod]
theorem far1_nr' {m : Int} (r v : Int) (h : m ≠ 0) : B.far1 m v (B.nr m r) = B.far1 m v r := by
  unfold B.far1 B.nr
  rw [if_neg h, Int.sub_emod, Int.emod_emod_of_dvd _ (Int.dvd_refl m), ← Int.sub_emod]
theorem upS_nr (m r v : Int) : B.upS m (B.nr m r) v = B.upS m r v := by
  unfold B.upS
  by_cases h : m = 0
  · subst h; unfold B.nr; simp only [if_true]
  · simp only [if_neg h, far1_nr r v h]
theorem dnS_nr (m r v : Int) : B.dnS m (B.nr m r) v = B.dnS m r v := by
  unfold B.dnS
  by_cases h : m = 0
  · subst h; unfold B.nr; simp only [if_true]
  · simp only [if_neg h, far1_nr' r v h]
theorem num_Bot_s : num_Bot = botS := rfl
theorem num_Make_s {a b c d : Int} (ha : I64 a) (hb : I64 b) (hc : U64 c) (hd : U64 d) : num_Make a b c d = makeS a b c d := by
  unfold num_Make num_Make.c num_Make.c0 makeS
  simp only [B.norm_s hc hd, B.up_s hc (B.nr_U hc hd) ha, B.dn_s hc (B.nr_U hc hd) hb, upS_nr, dnS_nr, B.const_s, num_Bot_s, id]
  generalize B.upS c d a = U
  generalize B.dnS c d b = V
  obtain ⟨u, p⟩ := U
  obtain ⟨v, q⟩ := V
  by_cases h1 : b < a <;> cases p <;> cases q <;> by_cases h2 : v < u <;> by_cases h3 : u = v <;> simp [h1, h2, h3, botS, Bool.cond_eq_ite]
def rangeS (a b : Int) : Nm := makeS a b 1 0
theorem num_Range_s {a b : Int} (ha : I64 a) (hb : I64 b) : num_Range a b = rangeS a b := by
  unfold num_Range num_Range.c num_Range.c0
  simp only [num_Make_s ha hb U1 U0, id]
  rfl
theorem num_Const_s {a : Int} (ha : I64 a) : num_Const a = constS a := by
  unfold num_Const num_Const.c num_Const.c0
  simp only [num_Range_s ha ha, id]
  exact make_const ha
theorem num_Norm_s {a0 : Bool} {a1 a2 a3 a4 : Int} (h : Raw (a0, a1, a2, a3, a4)) : num_Norm a0 a1 a2 a3 a4 = normS (a0, a1, a2, a3, a4) := by
  unfold num_Norm num_Norm.c num_Norm.c0 normS
  simp only [num_Make_s h.l h.h h.m h.r, num_Bot_s, id]
  cases a0 <;> rfl
theorem num_Has_s {a0 : Bool} {a1 a2 a3 a4 v : Int} (h : Raw (a0, a1, a2, a3, a4)) (hv : I64 v) : num_Has a0 a1 a2 a3 a4 v = decide (In (a0, a1, a2, a3, a4) v) := by
  unfold num_Has num_Has.c num_Has.c0
  simp only [A.ih_s, B.has_s h.m h.r hv, id]
  rw [Bool.eq_iff_iff, decide_eq_true_eq]
  unfold In
  cases a0 <;> by_cases h1 : a1 ≤ v ∧ v ≤ a2 <;> simp [h1]
theorem aleq_s {a b : Int} (c d : Int) (h : a ≤ b) : A.ival_Leq a b c d = (decide (c ≤ a) && decide (b ≤ d)) := by
  unfold A.ival_Leq A.ival_Leq.c A.ival_Leq.c0
  simp only [A.none_s, id]
  rw [decide_eq_false (show ¬ b < a by omega)]
  by_cases h1 : c ≤ a <;> simp [h1]
theorem nz_or (x : Nm) (h : NF x) : x.1 = true ∨ (x.1 = false ∧ x.2.1 ≤ x.2.2.1) := by
  rcases nf_ne h with h | h
  · exact .inl h
  · exact .inr ⟨h.b, h.le⟩
section
variable {a0 b0 : Bool} {a1 a2 a3 a4 b1 b2 b3 b4 : Int}
theorem num_Leq_k {γ : Type} (n : γ) (k : Bool → γ) (h : Raw (a0, a1, a2, a3, a4)) (h' : Raw (b0, b1, b2, b3, b4)) :
    num_Leq.c n k a0 a1 a2 a3 a4 b0 b1 b2 b3 b4 = k (leqS (a0, a1, a2, a3, a4) (b0, b1, b2, b3, b4)) := by
  unfold num_Leq.c num_Leq.c0 leqS leqN
  have n1 := norm_nf h
  have n2 := norm_nf h'
  simp only [num_Norm_s h, num_Norm_s h']
  generalize normS (a0, a1, a2, a3, a4) = x at *
  generalize normS (b0, b1, b2, b3, b4) = y at *
  simp only [B.leq_ok n1.raw.m n1.raw.r n2.raw.m n2.raw.r, B.leq_s n1.raw.m n1.raw.r n2.raw.m n2.raw.r, Bool.true_or, Bool.true_and, cond_true]
  congr 1
  rcases nz_or x n1 with e | ⟨e, le⟩
  · simp [e]
  · rw [aleq_s _ _ le]
    cases y.1 <;> cases decide (y.2.1 ≤ x.2.1) <;> cases decide (x.2.2.1 ≤ y.2.2.1) <;> simp [e]
theorem num_Leq_ok (h : Raw (a0, a1, a2, a3, a4)) (h' : Raw (b0, b1, b2, b3, b4)) : num_Leq.ok a0 a1 a2 a3 a4 b0 b1 b2 b3 b4 = true := num_Leq_k _ _ h h'
theorem num_Leq_s (h : Raw (a0, a1, a2, a3, a4)) (h' : Raw (b0, b1, b2, b3, b4)) : num_Leq a0 a1 a2 a3 a4 b0 b1 b2 b3 b4 = leqS (a0, a1, a2, a3, a4) (b0, b1, b2, b3, b4) := num_Leq_k _ _ h h'
theorem jn_ne {a b c d : Int} (h : a ≤ b) (h' : c ≤ d) : A.jn a b c d = (if c < a then c else a, if d > b then d else b) := by
  unfold A.jn; rw [if_neg (by omega), if_neg (by omega)]
theorem num_Join_k {γ : Type} (n : γ) (k : Nm → γ) (h : Raw (a0, a1, a2, a3, a4)) (h' : Raw (b0, b1, b2, b3, b4)) :
    num_Join.c n k a0 a1 a2 a3 a4 b0 b1 b2 b3 b4 = k (joinS (a0, a1, a2, a3, a4) (b0, b1, b2, b3, b4)) := by
  unfold num_Join.c num_Join.c0 joinS joinN
  have n1 := norm_nf h
  have n2 := norm_nf h'
  simp only [num_Norm_s h, num_Norm_s h']
  generalize normS (a0, a1, a2, a3, a4) = x at *
  generalize normS (b0, b1, b2, b3, b4) = y at *
  have j := B.join_spec n1.raw.m n1.raw.r n2.raw.m n2.raw.r
  simp only [B.join_ok n1.raw.m n1.raw.r n2.raw.m n2.raw.r, B.join_s n1.raw.m n1.raw.r n2.raw.m n2.raw.r, cond_true]
  rcases nz_or x n1 with e | ⟨e, le⟩
  · simp [e]
  · rcases nz_or y n2 with e' | ⟨e', le'⟩
    · simp [e, e']; rw [← e]
    · simp only [e, e', cond_false, A.ij_s, jn_ne le le']
      rw [num_Make_s (ite_I n2.raw.l n1.raw.l) (ite_I n2.raw.h n1.raw.h) j.1 j.2.1]
      simp
theorem num_Join_ok (h : Raw (a0, a1, a2, a3, a4)) (h' : Raw (b0, b1, b2, b3, b4)) : num_Join.ok a0 a1 a2 a3 a4 b0 b1 b2 b3 b4 = true := num_Join_k _ _ h h'
theorem num_Join_s (h : Raw (a0, a1, a2, a3, a4)) (h' : Raw (b0, b1, b2, b3, b4)) : num_Join a0 a1 a2 a3 a4 b0 b1 b2 b3 b4 = joinS (a0, a1, a2, a3, a4) (b0, b1, b2, b3, b4) := num_Join_k _ _ h h'
theorem num_Meet_k {γ : Type} (n : γ) (k : Nm → γ) (h : Raw (a0, a1, a2, a3, a4)) (h' : Raw (b0, b1, b2, b3, b4)) :
    num_Meet.c n k a0 a1 a2 a3 a4 b0 b1 b2 b3 b4 = k (meetS (a0, a1, a2, a3, a4) (b0, b1, b2, b3, b4)) := by
  unfold num_Meet.c num_Meet.c0 meetS meetN
  have n1 := norm_nf h
  have n2 := norm_nf h'
  simp only [num_Norm_s h, num_Norm_s h']
  generalize normS (a0, a1, a2, a3, a4) = x at *
  generalize normS (b0, b1, b2, b3, b4) = y at *
  have j := B.meet_spec n1.raw.m n1.raw.r n2.raw.m n2.raw.r
  have mi := A.mt_I n1.raw.l n1.raw.h n2.raw.l n2.raw.h
  simp only [B.meet_ok n1.raw.m n1.raw.r n2.raw.m n2.raw.r, B.meet_s n1.raw.m n1.raw.r n2.raw.m n2.raw.r, A.im_s, num_Make_s mi.1 mi.2 j.1 j.2.1, num_Bot_s, cond_true]
  cases x.1 <;> cases y.1 <;> cases (B.meetS x.2.2.2.1 x.2.2.2.2 y.2.2.2.1 y.2.2.2.2).2.2 <;> simp
theorem num_Meet_ok (h : Raw (a0, a1, a2, a3, a4)) (h' : Raw (b0, b1, b2, b3, b4)) : num_Meet.ok a0 a1 a2 a3 a4 b0 b1 b2 b3 b4 = true := num_Meet_k _ _ h h'
theorem num_Meet_s (h : Raw (a0, a1, a2, a3, a4)) (h' : Raw (b0, b1, b2, b3, b4)) : num_Meet a0 a1 a2 a3 a4 b0 b1 b2 b3 b4 = meetS (a0, a1, a2, a3, a4) (b0, b1, b2, b3, b4) := num_Meet_k _ _ h h'
end
end Go.Proofs.YtmadebejnhinoaaDoor.V


set_option linter.unusedVariables false
set_option linter.unusedSimpArgs false
namespace Go.Proofs.YtmadebejnhinoaaDoor.V
open Go Go.Wk Go.RowKit

def isOp (op : Int) : Prop := op = 1 ∨ op = 3 ∨ op = 4 ∨ op = 5 ∨ op = 6 ∨ op = 7
instance (op : Int) : Decidable (isOp op) := inferInstanceAs (Decidable (_ ∨ _))
/-! the numbers that operators give -/
end Go.Proofs.YtmadebejnhinoaaDoor.V


set_option linter.unusedVariables false
set_option linter.unusedSimpArgs false
namespace Go.Proofs.YtmadebejnhinoaaDoor.V
open Go Go.Wk Go.RowKit

section
variable {a0 b0 : Bool} {a1 a2 a3 a4 b1 b2 b3 b4 : Int}
/-- the intervals and classes of two normal forms, worked on, are of 64 bits -/
structure Fit4 (i : Int × Int × Bool) (c : Int × Int) : Prop where
  l : I64 i.1
  h : I64 i.2.1
  m : U64 c.1
  r : U64 c.2
end
end Go.Proofs.YtmadebejnhinoaaDoor.V


set_option linter.unusedVariables false
set_option linter.unusedSimpArgs false
namespace Go.Proofs.YtmadebejnhinoaaDoor.V
open Go Go.Wk Go.RowKit

section
variable {a0 b0 : Bool} {a1 a2 a3 a4 b1 b2 b3 b4 : Int}
end
end Go.Proofs.YtmadebejnhinoaaDoor.V


set_option linter.unusedVariables false
set_option linter.unusedSimpArgs false
namespace Go.Proofs.YtmadebejnhinoaaDoor.V
open Go Go.Wk Go.RowKit

/-! the statement's words -/
theorem neg_rest {q b : Int} (h : 0 < b) : (-q - 1) % b = b - 1 - q % b := by
  have h1 := Int.emod_nonneg q (show b ≠ 0 by omega)
  have h2 := Int.emod_lt_of_pos q h
  have h3 := Int.emod_add_mul_ediv q b
  have e : -q - 1 = (b - 1 - q % b) + b * (-(q / b) - 1) := by
    rw [Int.mul_sub, Int.mul_neg, Int.mul_one]; omega
  rw [e, Int.add_mul_emod_self_left]
  exact Int.emod_eq_of_lt (by omega) (by omega)
section
variable {a0 : Bool} {a1 a2 a3 a4 v : Int}
end
end Go.Proofs.YtmadebejnhinoaaDoor.V


set_option linter.unusedVariables false
set_option linter.unusedSimpArgs false
namespace Go.Proofs.YtmadebejnhinoaaDoor.V
open Go Go.Wk Go.RowKit

end Go.Proofs.YtmadebejnhinoaaDoor.V


set_option linter.unusedVariables false
set_option linter.unusedSimpArgs false
namespace Go.Proofs.YtmadebejnhinoaaDoor.V
open Go Go.Wk Go.RowKit

end Go.Proofs.YtmadebejnhinoaaDoor.V

