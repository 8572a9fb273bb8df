/- Quotients and remainders of intervals. Conditions: none. -/
import Derived.Test.YtonpbbhlmapbdaaGreatDoorAN1
set_option linter.unusedVariables false
set_option linter.unusedSimpArgs false
namespace Go.Proofs.YtonpbbhlmapbdaaGreatDoor.V.A
open Go Go.Wk
/-- r is the hull of the numbers S -/
def Hull (r : Int × Int) (S : Int → Prop) : Prop := (r = (1, 0) ∧ ∀ q, ¬ S q) ∨ (S r.1 ∧ S r.2 ∧ ∀ q, S q → r.1 ≤ q ∧ q ≤ r.2)
theorem Hull.uniq {r r' : Int × Int} {S : Int → Prop} (h : Hull r S) (h' : Hull r' S) : r = r' := by
  rcases h with ⟨h1, h2⟩ | ⟨h1, h2, h3⟩ <;> rcases h' with ⟨k1, k2⟩ | ⟨k1, k2, k3⟩
  · rw [h1, k1]
  · exact absurd k1 (h2 _)
  · exact absurd h1 (k2 _)
  · have a1 := h3 _ k1
    have a2 := h3 _ k2
    have a3 := k3 _ h1
    have a4 := k3 _ h2
    obtain ⟨x, y⟩ := r
    obtain ⟨x', y'⟩ := r'
    simp only [Prod.mk.injEq] at *
    constructor <;> omega
theorem Hull.congr {r : Int × Int} {S S' : Int → Prop} (h : Hull r S) (e : ∀ q, S q ↔ S' q) : Hull r S' := by
  have : S = S' := funext fun q => propext (e q)
  rwa [← this]
theorem Hull.none {S : Int → Prop} (h : ∀ q, ¬ S q) : Hull (1, 0) S := .inl ⟨rfl, h⟩
theorem Hull.one (v : Int) : Hull (v, v) (fun q => q = v) := .inr ⟨rfl, rfl, fun q h => by simp only at h ⊢; omega⟩
theorem Hull.jn {r r' : Int × Int} {S S' : Int → Prop} (h : Hull r S) (h' : Hull r' S') : Hull (jn r.1 r.2 r'.1 r'.2) (fun q => S q ∨ S' q) := by
  obtain ⟨x, y⟩ := r
  obtain ⟨x', y'⟩ := r'
  unfold V.A.jn
  rcases h with ⟨h1, h2⟩ | ⟨h1, h2, h3⟩ <;> rcases h' with ⟨k1, k2⟩ | ⟨k1, k2, k3⟩
  · cases h1; cases k1
    exact .inl ⟨by simp, fun q h => h.elim (fun h => h2 _ h) (fun h => k2 _ h)⟩
  · cases h1
    have := (k3 _ k2).1
    simp only at *
    rw [if_pos (by omega), if_neg (by omega)]
    exact .inr ⟨.inr k1, .inr k2, fun q h => h.elim (fun h => absurd h (h2 _)) (fun h => k3 _ h)⟩
  · cases k1
    have := (h3 _ h2).1
    simp only at *
    rw [if_neg (by omega), if_pos (by omega)]
    exact .inr ⟨.inl h1, .inl h2, fun q h => h.elim (fun h => h3 _ h) (fun h => absurd h (k2 _))⟩
  · have q1 := (h3 _ h2).1
    have q2 := (k3 _ k2).1
    simp only at *
    rw [if_neg (by omega), if_neg (by omega)]
    refine .inr ⟨?_, ?_, ?_⟩
    · simp only; split <;> first | exact .inr k1 | exact .inl h1
    · simp only; split <;> first | exact .inr k2 | exact .inl h2
    · rintro q (h | h)
      · have := h3 _ h; simp only at this ⊢; constructor <;> split <;> omega
      · have := k3 _ h; simp only at this ⊢; constructor <;> split <;> omega
theorem tdiv_nat (x y : Nat) : ((x : Int).tdiv (y : Int)) = ((x / y : Nat) : Int) := rfl
theorem tdiv_mono {x x' y : Int} (hy : 0 < y) (h : x ≤ x') : x.tdiv y ≤ x'.tdiv y := Int.tdiv_le_tdiv hy h
theorem tdiv_den {x y z : Int} (hx : 0 ≤ x) (hy : 0 < y) (h : y ≤ z) : x.tdiv z ≤ x.tdiv y := by
  obtain ⟨n, rfl⟩ := Int.eq_ofNat_of_zero_le hx
  obtain ⟨m, rfl⟩ := Int.eq_ofNat_of_zero_le (Int.le_of_lt hy)
  obtain ⟨k, rfl⟩ := Int.eq_ofNat_of_zero_le (show 0 ≤ z by omega)
  rw [tdiv_nat, tdiv_nat]
  exact_mod_cast Nat.div_le_div_left (by omega) (by omega)
theorem tdiv_den' {x y z : Int} (hx : x ≤ 0) (hy : 0 < y) (h : y ≤ z) : x.tdiv y ≤ x.tdiv z := by
  have := tdiv_den (x := -x) (by omega) hy h
  rw [Int.neg_tdiv, Int.neg_tdiv] at this
  omega
theorem quot_pos {a b c d x y : Int} (hc : 0 < c) (h1 : a ≤ x) (h2 : x ≤ b) (h3 : c ≤ y) (h4 : y ≤ d) :
    min (min (a.tdiv c) (a.tdiv d)) (min (b.tdiv c) (b.tdiv d)) ≤ x.tdiv y ∧ x.tdiv y ≤ max (max (a.tdiv c) (a.tdiv d)) (max (b.tdiv c) (b.tdiv d)) := by
  have m1 := tdiv_mono (y := y) (by omega) h1
  have m2 := tdiv_mono (y := y) (by omega) h2
  constructor
  · rcases Int.le_total 0 a with ha | ha
    · have := tdiv_den ha (show 0 < y by omega) h4; omega
    · have := tdiv_den' ha hc h3; omega
  · rcases Int.le_total 0 b with hb | hb
    · have := tdiv_den hb hc h3; omega
    · have := tdiv_den' hb (show 0 < y by omega) h4; omega
theorem quot_all {a b c d x y : Int} (hc : 0 < c ∨ d < 0) (h1 : a ≤ x) (h2 : x ≤ b) (h3 : c ≤ y) (h4 : y ≤ d) :
    min (min (a.tdiv c) (a.tdiv d)) (min (b.tdiv c) (b.tdiv d)) ≤ x.tdiv y ∧ x.tdiv y ≤ max (max (a.tdiv c) (a.tdiv d)) (max (b.tdiv c) (b.tdiv d)) := by
  rcases hc with hc | hc
  · exact quot_pos hc h1 h2 h3 h4
  · have := quot_pos (a := a) (b := b) (c := -d) (d := -c) (x := x) (y := -y) (by omega) h1 h2 (by omega) (by omega)
    simp only [Int.tdiv_neg] at this
    omega
def quots (a b c d q : Int) : Prop := ∃ x y, a ≤ x ∧ x ≤ b ∧ c ≤ y ∧ y ≤ d ∧ q = x.tdiv y
/-- the hull of quotients, by the four corners -/
def cor (a b c d : Int) : Int × Int := if b < a then (1, 0) else if d < c then (1, 0) else
  (min (min (a.tdiv c) (a.tdiv d)) (min (b.tdiv c) (b.tdiv d)), max (max (a.tdiv c) (a.tdiv d)) (max (b.tdiv c) (b.tdiv d)))
theorem cor_hull {a b c d : Int} (hc : 0 < c ∨ d < 0) : Hull (cor a b c d) (quots a b c d) := by
  unfold cor
  split
  · exact Hull.none fun q ⟨x, y, h1, h2, h3, h4, h5⟩ => by omega
  · split
    · exact Hull.none fun q ⟨x, y, h1, h2, h3, h4, h5⟩ => by omega
    · rename_i g1 g2
      have p1 : quots a b c d (a.tdiv c) := ⟨a, c, by omega, by omega, by omega, by omega, rfl⟩
      have p2 : quots a b c d (a.tdiv d) := ⟨a, d, by omega, by omega, by omega, by omega, rfl⟩
      have p3 : quots a b c d (b.tdiv c) := ⟨b, c, by omega, by omega, by omega, by omega, rfl⟩
      have p4 : quots a b c d (b.tdiv d) := ⟨b, d, by omega, by omega, by omega, by omega, rfl⟩
      refine .inr ⟨?_, ?_, ?_⟩
      · simp only
        rcases Int.le_total (min (a.tdiv c) (a.tdiv d)) (min (b.tdiv c) (b.tdiv d)) with h | h
        · rw [Int.min_eq_left h]; rcases Int.le_total (a.tdiv c) (a.tdiv d) with k | k
          · rwa [Int.min_eq_left k]
          · rwa [Int.min_eq_right k]
        · rw [Int.min_eq_right h]; rcases Int.le_total (b.tdiv c) (b.tdiv d) with k | k
          · rwa [Int.min_eq_left k]
          · rwa [Int.min_eq_right k]
      · simp only
        rcases Int.le_total (max (a.tdiv c) (a.tdiv d)) (max (b.tdiv c) (b.tdiv d)) with h | h
        · rw [Int.max_eq_right h]; rcases Int.le_total (b.tdiv c) (b.tdiv d) with k | k
          · rwa [Int.max_eq_right k]
          · rwa [Int.max_eq_left k]
        · rw [Int.max_eq_left h]; rcases Int.le_total (a.tdiv c) (a.tdiv d) with k | k
          · rwa [Int.max_eq_right k]
          · rwa [Int.max_eq_left k]
      · rintro q ⟨x, y, h1, h2, h3, h4, rfl⟩
        exact quot_all hc h1 h2 h3 h4
/-- a quotient stays within the numbers of 64 bits, but for one pair -/
theorem tdiv_I {x y : Int} (hx : I64 x) (hy : y ≠ 0) (h : x ≠ -9223372036854775808 ∨ y ≠ -1) : I64 (x.tdiv y) := by
  unfold I64 at hx ⊢
  have hn : (x.tdiv y).natAbs ≤ x.natAbs := by rw [Int.natAbs_tdiv]; exact Nat.div_le_self _ _
  by_cases hm : x = -9223372036854775808
  · subst hm
    have hy' : y ≠ -1 := h.elim (fun h => absurd rfl h) id
    by_cases h1 : y = 1
    · subst h1; decide
    · have h2 : 2 ≤ y.natAbs := by omega
      have h3 : ((-9223372036854775808 : Int).tdiv y).natAbs ≤ 9223372036854775808 / 2 := by
        rw [Int.natAbs_tdiv]
        exact Nat.div_le_div_left (c := 2) h2 (by omega)
      omega
  · omega
open Go Go.Wk
theorem mt_m (a b c d : Int) : mt a b c d = if min b d < max a c then (1, 0) else (max a c, min b d) := by
  have e1 : (if d < b then d else b) = min b d := by split <;> omega
  have e2 : (if c > a then c else a) = max a c := by split <;> omega
  unfold mt
  rw [e1, e2]
theorem mt_mem (a b c d y : Int) : ((mt a b c d).1 ≤ y ∧ y ≤ (mt a b c d).2) ↔ (a ≤ y ∧ y ≤ b ∧ c ≤ y ∧ y ≤ d) := by
  rw [mt_m]
  by_cases h : min b d < max a c
  · rw [if_pos h]; simp only; omega
  · rw [if_neg h]; simp only; omega
theorem jn4 (p1 p2 p3 p4 : Int) : jn (jn (jn (jn 1 0 p1 p1).1 (jn 1 0 p1 p1).2 p2 p2).1 (jn (jn 1 0 p1 p1).1 (jn 1 0 p1 p1).2 p2 p2).2 p3 p3).1 (jn (jn (jn 1 0 p1 p1).1 (jn 1 0 p1 p1).2 p2 p2).1 (jn (jn 1 0 p1 p1).1 (jn 1 0 p1 p1).2 p2 p2).2 p3 p3).2 p4 p4 = (min (min p1 p2) (min p3 p4), max (max p1 p2) (max p3 p4)) := by
  have j1 := jn_p (l := p1) (h := p1) p2 (by omega)
  have j2 := jn_p (l := min p1 p2) (h := max p1 p2) p3 (by omega)
  have j3 := jn_p (l := min (min p1 p2) p3) (h := max (max p1 p2) p3) p4 (by omega)
  simp only [jn_1, j1, j2, j3, Prod.mk.injEq]
  constructor <;> omega
theorem word_Neg_s (a : Int) : word_Neg a = IntKind.i64.wrap (-a) := by
  unfold word_Neg word_Neg.c; (try unfold word_Neg.c0); simp only [id, word_Sub_s, Int.zero_sub]
theorem word_Div_s {x y : Int} (hx : I64 x) (hy : y ≠ 0) (h : x ≠ -9223372036854775808 ∨ y ≠ -1) : (word_Div x y).1 = x.tdiv y := by
  have hi' := tdiv_I hx hy h
  unfold word_Div word_Div.c word_Div.c0
  have e0 : (y == 0) = false := by simpa using hy
  simp only [e0, cond_false]
  by_cases h1 : y = -1
  · subst h1
    have hx' : x ≠ -9223372036854775808 := h.elim id (fun h => absurd rfl h)
    have e1 : ((-1 : Int) == -1) = true := rfl
    rw [e1, cond_true, word_Neg_s]
    unfold I64 at hx
    rw [wi_id (by omega) (by omega)]
    simp
  · have e1 : (y == -1) = false := by simpa using h1
    have e2 : decide (y = 0) = false := by simpa using hy
    rw [e1, cond_false, e2]
    exact wi_id hi'.1 hi'.2
theorem cq_s {a b c d : Int} (ha : I64 a) (hb : I64 b) (hc : 0 < c ∨ d < 0) (hw : a ≠ -9223372036854775808 ∨ d ≠ -1) : ival_cornersQ a b c d = cor a b c d := by
  unfold ival_cornersQ ival_cornersQ.c ival_cornersQ.c0 cor
  simp only [none_s, id, Bool.cond_decide, ij_s]
  split
  · rfl
  · split
    · rfl
    · rw [word_Div_s ha (y := c) (by omega) (by omega), word_Div_s ha (y := d) (by omega) (by omega), word_Div_s hb (y := c) (by omega) (by unfold I64 at ha; omega), word_Div_s hb (y := d) (by omega) (by unfold I64 at ha; omega), jn4]
theorem rc_ok {a b c d : Int} (hc : 0 < c ∨ d < 0) : ref_corners.ok a b c d = true := by
  unfold ref_corners.ok ref_corners.c ref_corners.c0
  simp only [empty_s, Bool.cond_decide]
  split
  · rfl
  · split
    · rfl
    · have e1 : decide (c = 0) = false := by rw [decide_eq_false_iff_not]; omega
      have e2 : decide (d = 0) = false := by rw [decide_eq_false_iff_not]; omega
      simp only [e1, e2, Bool.not_false, cond_true]
theorem rc_s {a b c d : Int} (ha : I64 a) (hb : I64 b) (hc : 0 < c ∨ d < 0) (hw : a ≠ -9223372036854775808 ∨ d ≠ -1) : ref_corners a b c d = cor a b c d := by
  unfold ref_corners ref_corners.c ref_corners.c0 cor
  simp only [empty_s, id, Bool.cond_decide, rj_s, None_s]
  split
  · rfl
  · split
    · rfl
    · have e1 : decide (c = 0) = false := by rw [decide_eq_false_iff_not]; omega
      have e2 : decide (d = 0) = false := by rw [decide_eq_false_iff_not]; omega
      have i1 := tdiv_I ha (y := c) (by omega) (by omega)
      have i2 := tdiv_I ha (y := d) (by omega) (by omega)
      have i3 := tdiv_I hb (y := c) (by omega) (by unfold I64 at ha; omega)
      have i4 := tdiv_I hb (y := d) (by omega) (by unfold I64 at ha; omega)
      simp only [e1, e2, Bool.not_false, cond_true, wi_id i1.1 i1.2, wi_id i2.1 i2.2, wi_id i3.1 i3.2, wi_id i4.1 i4.2, jn4]
theorem ih_s (a b v : Int) : ival_Has a b v = decide (a ≤ v ∧ v ≤ b) := by
  unfold ival_Has ival_Has.c; by_cases h : a ≤ v <;> simp [h]
theorem rh_s (a b v : Int) : ref_Has a b v = decide (a ≤ v ∧ v ≤ b) := by
  unfold ref_Has ref_Has.c; by_cases h : a ≤ v <;> simp [h]
theorem iu_s (a b : Int) : ival_under a b = mt a b (-9223372036854775808) (-1) := by unfold ival_under ival_under.c ival_under.c0; simp only [im_s, id]
theorem io_s (a b : Int) : ival_over a b = mt a b 1 9223372036854775807 := by unfold ival_over ival_over.c; (try unfold ival_over.c0); simp only [im_s, id]
theorem mt_lt (a b c d : Int) (h : d < 0) : 0 < (mt a b c d).1 ∨ (mt a b c d).2 < 0 := by
  rw [mt_m]
  by_cases h : min b d < max a c
  · rw [if_pos h]; left; simp only; omega
  · rw [if_neg h]; right; simp only; omega
theorem mt_gt (a b c d : Int) (h : 0 < c) : 0 < (mt a b c d).1 ∨ (mt a b c d).2 < 0 := by
  rw [mt_m]
  by_cases h : min b d < max a c
  · rw [if_pos h]; left; simp only; omega
  · rw [if_neg h]; left; simp only; omega
theorem mt_I {a b c d : Int} (ha : I64 a) (hb : I64 b) (hc : I64 c) (hd : I64 d) : I64 (mt a b c d).1 ∧ I64 (mt a b c d).2 := by
  unfold I64 at *
  rw [mt_m]
  by_cases h : min b d < max a c
  · rw [if_pos h]; simp only; omega
  · rw [if_neg h]; simp only; omega
theorem mt_no (a b c d v : Int) (h : d < v) (hv : v ≠ 0) : (mt a b c d).2 ≠ v := by
  rw [mt_m]
  by_cases h : min b d < max a c
  · rw [if_pos h]; simp only; omega
  · rw [if_neg h]; simp only; omega
theorem mt_no' (a b c d v : Int) (h : v < c) (hv : v ≠ 1) : (mt a b c d).1 ≠ v := by
  rw [mt_m]
  by_cases h : min b d < max a c
  · rw [if_pos h]; simp only; omega
  · rw [if_neg h]; simp only; omega
open Go Go.Wk
theorem ref_Div_ok (a b c d : Int) : ref_Div.ok a b c d = true := by
  unfold ref_Div.ok ref_Div.c ref_Div.c0
  simp only [rm_s, rc_ok (mt_lt _ _ _ (-1) (by omega)), rc_ok (mt_lt _ _ _ (-2) (by omega)), rc_ok (mt_gt _ _ 1 _ (by omega)), cond_true]
  cases ref_Empty a b <;> cases ref_Empty c d <;> simp only [cond_true, cond_false]
  cases ref_Has a b (-9223372036854775808) <;> simp only [Bool.not_true, Bool.not_false, cond_true, cond_false]
  rw [Bool.cond_self]
/-- all quotients, the one that wraps as it wraps -/
def Q (a b c d q : Int) : Prop := ∃ x y, a ≤ x ∧ x ≤ b ∧ c ≤ y ∧ y ≤ d ∧ y ≠ 0 ∧ q = if x = -9223372036854775808 ∧ y = -1 then -9223372036854775808 else x.tdiv y
def wr (a b c d : Int) : Prop := (a ≤ -9223372036854775808 ∧ -9223372036854775808 ≤ b) ∧ (c ≤ -1 ∧ -1 ≤ d)
instance (a b c d : Int) : Decidable (wr a b c d) := inferInstanceAs (Decidable (_ ∧ _))
theorem wr_neg (c d : Int) : ((mt c d (-9223372036854775808) (-1)).1 ≤ -1 ∧ -1 ≤ (mt c d (-9223372036854775808) (-1)).2) ↔ (c ≤ -1 ∧ -1 ≤ d) := by
  rw [mt_mem]; omega
theorem i64c {x : Int} (h : -9223372036854775808 ≤ x ∧ x ≤ 9223372036854775807) : I64 x := h
theorem set_plain {a b c d q : Int} (ha : I64 a) (hb : I64 b) (hc : I64 c) (hd : I64 d) (h : ¬ wr a b c d) :
    (quots a b (mt c d 1 9223372036854775807).1 (mt c d 1 9223372036854775807).2 q ∨ quots a b (mt c d (-9223372036854775808) (-1)).1 (mt c d (-9223372036854775808) (-1)).2 q) ↔ Q a b c d q := by
  unfold I64 at ha hb hc hd
  constructor
  · rintro (⟨x, y, h1, h2, h3, h4, rfl⟩ | ⟨x, y, h1, h2, h3, h4, rfl⟩)
    · have := (mt_mem _ _ _ _ _).1 ⟨h3, h4⟩
      exact ⟨x, y, h1, h2, by omega, by omega, by omega, by rw [if_neg (by omega)]⟩
    · have := (mt_mem _ _ _ _ _).1 ⟨h3, h4⟩
      exact ⟨x, y, h1, h2, by omega, by omega, by omega, by rw [if_neg (fun e => h ⟨by omega, by omega⟩)]⟩
  · rintro ⟨x, y, h1, h2, h3, h4, h5, rfl⟩
    rw [if_neg (fun e => h ⟨by omega, by omega⟩)]
    rcases Int.lt_or_lt_of_ne h5 with hy | hy
    · have := (mt_mem c d (-9223372036854775808) (-1) y).2 (by omega)
      exact .inr ⟨x, y, h1, h2, this.1, this.2, rfl⟩
    · have := (mt_mem c d 1 9223372036854775807 y).2 (by omega)
      exact .inl ⟨x, y, h1, h2, this.1, this.2, rfl⟩
theorem ref_Div_s {a b c d : Int} (ha : I64 a) (hb : I64 b) (hc : I64 c) (hd : I64 d) (h1 : ¬ b < a) (h2 : ¬ d < c) :
    Hull ((ref_Div a b c d).1, (ref_Div a b c d).2.1) (Q a b c d) ∧ (ref_Div a b c d).2.2 = !decide (wr a b c d) := by
  have In := mt_I hc hd (i64c (x := -9223372036854775808) (by decide)) (i64c (x := -1) (by decide))
  have Ip := mt_I hc hd (i64c (x := 1) (by decide)) (i64c (x := 9223372036854775807) (by decide))
  have kn := mt_lt c d (-9223372036854775808) (-1) (by omega)
  have kp := mt_gt c d 1 9223372036854775807 (by omega)
  have hpos := cor_hull (a := a) (b := b) kp
  have hneg := cor_hull (a := a) (b := b) kn
  have cp : ref_corners a b (mt c d 1 9223372036854775807).1 (mt c d 1 9223372036854775807).2 = cor a b (mt c d 1 9223372036854775807).1 (mt c d 1 9223372036854775807).2 := rc_s ha hb kp (.inr (by
    rw [mt_m]
    by_cases h : min d 9223372036854775807 < max c 1
    · rw [if_pos h]; decide
    · rw [if_neg h]; simp only; omega))
  have o1 := rc_ok (a := a) (b := b) kp
  have o2 := rc_ok (a := a) (b := b) kn
  have E1 : ref_Empty a b = false := by rw [empty_s]; simpa using h1
  have E2 : ref_Empty c d = false := by rw [empty_s]; simpa using h2
  unfold ref_Div ref_Div.c ref_Div.c0
  simp only [E1, E2, cond_false, rm_s, rh_s, rj_s, o1, cond_true, id, cp, o2]
  by_cases hw : wr a b c d
  · have w1 := hw.1
    have w2 := (wr_neg c d).2 hw.2
    have ea : a = -9223372036854775808 := by unfold I64 at ha; omega
    subst ea
    rw [decide_eq_true w1, decide_eq_true w2]
    simp only [Bool.not_true, cond_false]
    have k2 := mt_lt (mt c d (-9223372036854775808) (-1)).1 (mt c d (-9223372036854775808) (-1)).2 (-9223372036854775808) (-2) (by omega)
    have Ia := mt_I ha hb (i64c (x := -9223372036854775807) (by decide)) (i64c (x := 9223372036854775807) (by decide))
    have c1 := rc_s Ia.1 Ia.2 kn (.inl (mt_no' _ _ _ _ _ (by omega) (by omega)))
    have c2 := rc_s (i64c (x := -9223372036854775808) (by decide)) (i64c (x := -9223372036854775808) (by decide)) k2 (.inr (mt_no _ _ _ _ _ (by omega) (by omega)))
    simp only [rc_ok kn, rc_ok k2, cond_true, c1, c2]
    refine ⟨?_, by rw [decide_eq_true hw]; rfl⟩
    have H := ((hpos.jn (Hull.one (-9223372036854775808))).jn (cor_hull (a := (mt (-9223372036854775808) b (-9223372036854775807) 9223372036854775807).1) (b := (mt (-9223372036854775808) b (-9223372036854775807) 9223372036854775807).2) kn)).jn (cor_hull (a := -9223372036854775808) (b := -9223372036854775808) k2)
    refine H.congr fun q => ?_
    unfold I64 at ha hb hc hd
    constructor
    · rintro (((⟨x, y, g1, g2, g3, g4, rfl⟩ | rfl) | ⟨x, y, g1, g2, g3, g4, rfl⟩) | ⟨x, y, g1, g2, g3, g4, rfl⟩)
      · have := (mt_mem _ _ _ _ _).1 ⟨g3, g4⟩
        exact ⟨x, y, g1, g2, by omega, by omega, by omega, by rw [if_neg (by omega)]⟩
      · exact ⟨-9223372036854775808, -1, by omega, by omega, hw.2.1, hw.2.2, by omega, by rw [if_pos ⟨rfl, rfl⟩]⟩
      · have m1 := (mt_mem _ _ _ _ _).1 ⟨g1, g2⟩
        have m2 := (mt_mem _ _ _ _ _).1 ⟨g3, g4⟩
        exact ⟨x, y, by omega, by omega, by omega, by omega, by omega, by rw [if_neg (by omega)]⟩
      · have m2 := (mt_mem _ _ _ _ _).1 ⟨g3, g4⟩
        have m3 := (mt_mem _ _ _ _ _).1 ⟨m2.1, m2.2.1⟩
        exact ⟨x, y, by omega, by omega, by omega, by omega, by omega, by rw [if_neg (by omega)]⟩
    · rintro ⟨x, y, g1, g2, g3, g4, g5, rfl⟩
      by_cases e : x = -9223372036854775808 ∧ y = -1
      · rw [if_pos e]; exact .inl (.inl (.inr rfl))
      · rw [if_neg e]
        rcases Int.lt_or_lt_of_ne g5 with hy | hy
        · have m1 := (mt_mem c d (-9223372036854775808) (-1) y).2 (by omega)
          by_cases ex : x = -9223372036854775808
          · have m2 := (mt_mem (mt c d (-9223372036854775808) (-1)).1 (mt c d (-9223372036854775808) (-1)).2 (-9223372036854775808) (-2) y).2 ⟨m1.1, m1.2, by omega, by omega⟩
            exact .inr ⟨x, y, by omega, by omega, m2.1, m2.2, rfl⟩
          · have m2 := (mt_mem (-9223372036854775808) b (-9223372036854775807) 9223372036854775807 x).2 (by omega)
            exact .inl (.inr ⟨x, y, m2.1, m2.2, m1.1, m1.2, rfl⟩)
        · have m1 := (mt_mem c d 1 9223372036854775807 y).2 (by omega)
          exact .inl (.inl (.inl ⟨x, y, g1, g2, m1.1, m1.2, rfl⟩))
  · have hn : (ref_corners a b (mt c d (-9223372036854775808) (-1)).1 (mt c d (-9223372036854775808) (-1)).2) = cor a b (mt c d (-9223372036854775808) (-1)).1 (mt c d (-9223372036854775808) (-1)).2 := by
      by_cases ea : a = -9223372036854775808
      · refine rc_s ha hb kn (.inr fun e => hw ⟨by unfold I64 at hb; omega, ?_⟩)
        have := (wr_neg c d).1 ⟨?_, by omega⟩
        · exact this
        · rw [mt_m] at e ⊢
          revert e
          by_cases h : min d (-1) < max c (-9223372036854775808)
          · rw [if_pos h]; simp only; omega
          · rw [if_neg h]; simp only; omega
      · exact rc_s ha hb kn (.inl ea)
    have H := (hpos.jn hneg).congr fun q => set_plain ha hb hc hd hw
    by_cases w1 : a ≤ -9223372036854775808 ∧ -9223372036854775808 ≤ b
    · have w2 : ¬ ((mt c d (-9223372036854775808) (-1)).1 ≤ -1 ∧ -1 ≤ (mt c d (-9223372036854775808) (-1)).2) := fun h => hw ⟨w1, (wr_neg c d).1 h⟩
      rw [decide_eq_true w1, decide_eq_false w2, decide_eq_false hw]
      simp only [Bool.not_true, Bool.not_false, cond_false, cond_true, hn]
      exact ⟨H, trivial⟩
    · rw [decide_eq_false w1, decide_eq_false hw]
      simp only [Bool.not_true, Bool.not_false, cond_false, cond_true, hn]
      exact ⟨H, trivial⟩
open Go Go.Wk
theorem ival_Div_s {a b c d : Int} (ha : I64 a) (hb : I64 b) (hc : I64 c) (hd : I64 d) (h1 : ¬ b < a) (h2 : ¬ d < c) :
    Hull ((ival_Div a b c d).1, (ival_Div a b c d).2.1) (Q a b c d) ∧ (ival_Div a b c d).2.2 = !decide (wr a b c d) := by
  have In := mt_I hc hd (i64c (x := -9223372036854775808) (by decide)) (i64c (x := -1) (by decide))
  have Ip := mt_I hc hd (i64c (x := 1) (by decide)) (i64c (x := 9223372036854775807) (by decide))
  have kn := mt_lt c d (-9223372036854775808) (-1) (by omega)
  have kp := mt_gt c d 1 9223372036854775807 (by omega)
  have hpos := cor_hull (a := a) (b := b) kp
  have hneg := cor_hull (a := a) (b := b) kn
  have cp : ival_cornersQ a b (mt c d 1 9223372036854775807).1 (mt c d 1 9223372036854775807).2 = cor a b (mt c d 1 9223372036854775807).1 (mt c d 1 9223372036854775807).2 := cq_s ha hb kp (.inr (by
    rw [mt_m]
    by_cases h : min d 9223372036854775807 < max c 1
    · rw [if_pos h]; decide
    · rw [if_neg h]; simp only; omega))
  have E1 : ival_none a b = false := by rw [none_s]; simpa using h1
  have E2 : ival_none c d = false := by rw [none_s]; simpa using h2
  unfold ival_Div ival_Div.c ival_Div.c0
  simp only [E1, E2, cond_false, iu_s, io_s, ih_s, ij_s, im_s, id, cp]
  by_cases hw : wr a b c d
  · have w1 := hw.1
    have w3 := hw.2
    have w2 := (wr_neg c d).2 hw.2
    have w4 : ¬ ((mt c d 1 9223372036854775807).1 ≤ -1 ∧ -1 ≤ (mt c d 1 9223372036854775807).2) := by rw [mt_mem]; omega
    have ea : a = -9223372036854775808 := by unfold I64 at ha; omega
    subst ea
    rw [decide_eq_true w1, decide_eq_true w2, decide_eq_true w3, decide_eq_false w4]
    simp only [cond_true, cond_false, Bool.not_true]
    have k1 : (0 : Int) < -1 ∨ (-1 : Int) < 0 := by omega
    have k2 := mt_lt (mt c d (-9223372036854775808) (-1)).1 (mt c d (-9223372036854775808) (-1)).2 (-9223372036854775808) (-2) (by omega)
    have Ia := mt_I ha hb (i64c (x := -9223372036854775807) (by decide)) (i64c (x := 9223372036854775807) (by decide))
    have c1 := cq_s Ia.1 Ia.2 k1 (.inl (mt_no' _ _ _ _ _ (by omega) (by omega)))
    have c2 := cq_s ha hb k2 (.inr (mt_no _ _ _ _ _ (by omega) (by omega)))
    simp only [c1, c2, jn_1]
    refine ⟨?_, by rw [decide_eq_true hw]; rfl⟩
    have H := (((Hull.one (-9223372036854775808)).jn (cor_hull (a := (mt (-9223372036854775808) b (-9223372036854775807) 9223372036854775807).1) (b := (mt (-9223372036854775808) b (-9223372036854775807) 9223372036854775807).2) k1)).jn (cor_hull (a := -9223372036854775808) (b := b) k2)).jn hpos
    refine H.congr fun q => ?_
    unfold I64 at ha hb hc hd
    constructor
    · rintro (((rfl | ⟨x, y, g1, g2, g3, g4, rfl⟩) | ⟨x, y, g1, g2, g3, g4, rfl⟩) | ⟨x, y, g1, g2, g3, g4, rfl⟩)
      · exact ⟨-9223372036854775808, -1, by omega, by omega, hw.2.1, hw.2.2, by omega, by rw [if_pos ⟨rfl, rfl⟩]⟩
      · have m1 := (mt_mem _ _ _ _ _).1 ⟨g1, g2⟩
        exact ⟨x, y, by omega, by omega, by omega, by omega, by omega, by rw [if_neg (by omega)]⟩
      · have m2 := (mt_mem _ _ _ _ _).1 ⟨g3, g4⟩
        have m3 := (mt_mem _ _ _ _ _).1 ⟨m2.1, m2.2.1⟩
        exact ⟨x, y, by omega, by omega, by omega, by omega, by omega, by rw [if_neg (by omega)]⟩
      · have := (mt_mem _ _ _ _ _).1 ⟨g3, g4⟩
        exact ⟨x, y, g1, g2, by omega, by omega, by omega, by rw [if_neg (by omega)]⟩
    · rintro ⟨x, y, g1, g2, g3, g4, g5, rfl⟩
      by_cases e : x = -9223372036854775808 ∧ y = -1
      · rw [if_pos e]; exact .inl (.inl (.inl rfl))
      · rw [if_neg e]
        rcases Int.lt_or_lt_of_ne g5 with hy | hy
        · by_cases ey : y = -1
          · have m2 := (mt_mem (-9223372036854775808) b (-9223372036854775807) 9223372036854775807 x).2 (by omega)
            exact .inl (.inl (.inr ⟨x, y, m2.1, m2.2, by omega, by omega, rfl⟩))
          · have m1 := (mt_mem c d (-9223372036854775808) (-1) y).2 (by omega)
            have m2 := (mt_mem (mt c d (-9223372036854775808) (-1)).1 (mt c d (-9223372036854775808) (-1)).2 (-9223372036854775808) (-2) y).2 ⟨m1.1, m1.2, by omega, by omega⟩
            exact .inl (.inr ⟨x, y, g1, g2, m2.1, m2.2, rfl⟩)
        · have m1 := (mt_mem c d 1 9223372036854775807 y).2 (by omega)
          exact .inr ⟨x, y, g1, g2, m1.1, m1.2, rfl⟩
  · have hn : (ival_cornersQ a b (mt c d (-9223372036854775808) (-1)).1 (mt c d (-9223372036854775808) (-1)).2) = cor a b (mt c d (-9223372036854775808) (-1)).1 (mt c d (-9223372036854775808) (-1)).2 := by
      by_cases ea : a = -9223372036854775808
      · refine cq_s ha hb kn (.inr fun e => hw ⟨by unfold I64 at hb; omega, ?_⟩)
        have := (wr_neg c d).1 ⟨?_, by omega⟩
        · exact this
        · rw [mt_m] at e ⊢
          revert e
          by_cases h : min d (-1) < max c (-9223372036854775808)
          · rw [if_pos h]; simp only; omega
          · rw [if_neg h]; simp only; omega
      · exact cq_s ha hb kn (.inl ea)
    have H0 := (((Hull.none (S := fun _ => False) fun q h => h).jn hneg).jn hpos)
    have H := H0.congr (S' := Q a b c d) fun q => by
      rw [← set_plain ha hb hc hd hw]
      constructor
      · rintro ((h | h) | h)
        · exact h.elim
        · exact .inr h
        · exact .inl h
      · rintro (h | h)
        · exact .inr h
        · exact .inl (.inr h)
    by_cases w1 : a ≤ -9223372036854775808 ∧ -9223372036854775808 ≤ b
    · have w2 : ¬ (c ≤ -1 ∧ -1 ≤ d) := fun h => hw ⟨w1, h⟩
      rw [decide_eq_true w1, decide_eq_false w2, decide_eq_false hw]
      simp only [Bool.not_true, Bool.not_false, cond_false, cond_true, hn]
      exact ⟨H, trivial⟩
    · rw [decide_eq_false w1, decide_eq_false hw]
      simp only [Bool.not_true, Bool.not_false, cond_false, cond_true, hn]
      exact ⟨H, trivial⟩
theorem div_eq {a b c d : Int} (ha : I64 a) (hb : I64 b) (hc : I64 c) (hd : I64 d) : ival_Div a b c d = ref_Div a b c d := by
  by_cases h1 : b < a
  · unfold ival_Div ival_Div.c ival_Div.c0 ref_Div ref_Div.c ref_Div.c0
    simp only [none_s, empty_s, decide_eq_true h1, cond_true, None_s]
  · by_cases h2 : d < c
    · unfold ival_Div ival_Div.c ival_Div.c0 ref_Div ref_Div.c ref_Div.c0
      simp only [none_s, empty_s, decide_eq_true h2, decide_eq_false h1, cond_true, cond_false, None_s]
    · obtain ⟨p1, p2⟩ := ival_Div_s ha hb hc hd h1 h2
      obtain ⟨q1, q2⟩ := ref_Div_s ha hb hc hd h1 h2
      have e := p1.uniq q1
      simp only [Prod.mk.injEq] at e
      exact Prod.ext e.1 (Prod.ext e.2 (p2.trans q2.symm))
open Go Go.Wk
def absI (x : Int) : Int := if x < 0 then -x else x
theorem far_s {x : Int} (h : I64 x) : ref_far x = absI x := by
  unfold I64 at h
  unfold ref_far ref_far.c ref_far.c0 absI
  simp only [id, wu_eq, Bool.cond_decide]
  split <;> omega
theorem dist_s {x : Int} (h : I64 x) : ival_distance x = absI x := far_s h
theorem wr_s (x y : Int) : (word_Rem x y).1 = if y = 0 ∨ y = -1 then 0 else x.tmod y := by
  unfold word_Rem word_Rem.c
  by_cases h0 : y = 0
  · subst h0; simp
  · have e0 : (y == 0) = false := by simpa using h0
    by_cases h1 : y = -1
    · subst h1; simp
    · have e1 : (y == -1) = false := by simpa using h1
      have e2 : decide (y = 0) = false := by simpa using h0
      rw [e0, e1, e2, if_neg (by omega)]
      rfl
theorem mt_ne {c d v w : Int} : (mt c d v w).2 < (mt c d v w).1 ↔ min d w < max c v := by
  rw [mt_m]
  by_cases h : min d w < max c v
  · rw [if_pos h]; simp only; omega
  · rw [if_neg h]
theorem ref_Rem_ok {a b c d : Int} (ha : I64 a) (hb : I64 b) (hc : I64 c) (hd : I64 d) : ref_Rem.ok a b c d = true := by
  unfold ref_Rem.ok ref_Rem.c ref_Rem.c0
  simp only [empty_s, rm_s]
  by_cases h1 : b < a
  · rw [decide_eq_true h1]; rfl
  · rw [decide_eq_false h1]
    simp only [cond_false]
    by_cases hcd : c = d ∧ c = 0
    · obtain ⟨rfl, rfl⟩ := hcd
      rfl
    · have key : ∀ X Y : Bool, X = true → Y = true → (bif c == d then (bif ((!decide (c = 0) && true && true) || (bif c != -1 then (!decide (c = 0) && true) else true)) then true else false) else X) = true := by
        intro X Y hX hY
        by_cases e : c = d
        · have e0 : decide (c = 0) = false := by rw [decide_eq_false_iff_not]; omega
          rw [e0]; simp [e]
        · have e0 : (c == d) = false := by simpa using e
          rw [e0]; exact hX
      simp only [Bool.cond_self]
      have k := key true true rfl rfl
      rw [k]
      simp only [Bool.cond_self]
theorem rem_tail {a b n f m : Int} (h : a ≤ b) (hm : 0 ≤ m) (n1 n2 : Int) (hn : n1 = n2) :
    (bif decide (n1 < n) then (a, b, true) else bif decide (a < 0) then (bif decide (b > 0) then ((if -m > a then -m else a), (if m < b then m else b), true) else ((if -m > a then -m else a), 0, true)) else (bif decide (b > 0) then (0, (if m < b then m else b), true) else (0, 0, true)) : Int × Int × Bool)
    = bif decide (n2 < n) then (a, b, true) else (if (if -m > a then -m else a) < 0 then (if -m > a then -m else a) else 0, if (if m < b then m else b) > 0 then (if m < b then m else b) else 0, true) := by
  subst hn
  by_cases h0 : n1 < n
  · rw [decide_eq_true h0]; rfl
  · rw [decide_eq_false h0]
    simp only [cond_false, Bool.cond_decide]
    by_cases h1 : a < 0 <;> by_cases h2 : b > 0
    · simp only [h1, h2, if_true, Prod.mk.injEq, and_true]
      constructor <;> (repeat' split) <;> omega
    · simp only [h1, h2, if_true, if_false, Prod.mk.injEq, and_true]
      constructor <;> (repeat' split) <;> omega
    · simp only [h1, h2, if_true, if_false, Prod.mk.injEq, and_true]
      constructor <;> (repeat' split) <;> omega
    · simp only [h1, h2, if_false, Prod.mk.injEq, and_true]
      constructor <;> (repeat' split) <;> omega
theorem single {a b c d : Int} (e : ¬ (d < c)) (hne : ¬ ((mt c d (-9223372036854775808) (-1)).2 < (mt c d (-9223372036854775808) (-1)).1 ∧ (mt c d 1 9223372036854775807).2 < (mt c d 1 9223372036854775807).1)) (hc : I64 c) (hd : I64 d) (ecd : c = d) (X Y : Int × Int × Bool) :
    (bif ((!decide (c = 0) && true && true) || (bif c != -1 then (!decide (c = 0) && true) else true)) then ((bif c != -1 then a.tmod c else 0), (bif c != -1 then a.tmod c else 0), true) else (0, 0, false)) = ((word_Rem a c).1, (word_Rem a c).1, true) := by
  have h0 : c ≠ 0 := by
    intro h
    apply hne
    rw [mt_ne, mt_ne]
    omega
  rw [wr_s]
  have e0 : decide (c = 0) = false := by simpa using h0
  by_cases h1 : c = -1
  · subst h1; rfl
  · have e1 : (c != -1) = true := by simpa using h1
    rw [e0, e1, if_neg (by omega)]
    rfl
theorem rem_eq {a b c d : Int} (ha : I64 a) (hb : I64 b) (hc : I64 c) (hd : I64 d) : ival_Rem a b c d = ref_Rem a b c d := by
  have In := mt_I hc hd (i64c (x := -9223372036854775808) (by decide)) (i64c (x := -1) (by decide))
  have Ip := mt_I hc hd (i64c (x := 1) (by decide)) (i64c (x := 9223372036854775807) (by decide))
  unfold ival_Rem ival_Rem.c ival_Rem.c0 ref_Rem ref_Rem.c ref_Rem.c0 ival_one ival_one.c
  simp only [none_s, empty_s, iu_s, io_s, rm_s, id, None_s, dist_s ha, dist_s hb, dist_s In.1, dist_s In.2, dist_s Ip.1, dist_s Ip.2, far_s ha, far_s hb, far_s In.1, far_s In.2, far_s Ip.1, far_s Ip.2]
  by_cases h1 : b < a
  · rw [decide_eq_true h1]; rfl
  · rw [decide_eq_false h1]
    simp only [cond_false]
    by_cases h2 : d < c
    · have k1 : (mt c d (-9223372036854775808) (-1)).2 < (mt c d (-9223372036854775808) (-1)).1 := by rw [mt_ne]; omega
      have k2 : (mt c d 1 9223372036854775807).2 < (mt c d 1 9223372036854775807).1 := by rw [mt_ne]; omega
      rw [decide_eq_true h2, decide_eq_true k1, decide_eq_true k2]
      rfl
    · rw [decide_eq_false h2]
      simp only [cond_false]
      have fu : ¬ (mt c d (-9223372036854775808) (-1)).2 < (mt c d (-9223372036854775808) (-1)).1 → (mt c d (-9223372036854775808) (-1)).2 < 0 := by
        intro h; rw [mt_ne] at h; rw [mt_m, if_neg h]; simp only; omega
      have fo : ¬ (mt c d 1 9223372036854775807).2 < (mt c d 1 9223372036854775807).1 → 0 < (mt c d 1 9223372036854775807).1 := by
        intro h; rw [mt_ne] at h; rw [mt_m, if_neg h]; simp only; omega
      have sg := fun hne ecd => single (a := a) (b := b) h2 hne hc hd ecd (0, 0, true) (0, 0, true)
      revert In Ip fu fo sg
      generalize (mt c d (-9223372036854775808) (-1)).1 = u1
      generalize (mt c d (-9223372036854775808) (-1)).2 = u2
      generalize (mt c d 1 9223372036854775807).1 = o1
      generalize (mt c d 1 9223372036854775807).2 = o2
      intro In Ip fu fo sg
      unfold I64 at In Ip ha hb
      have fin : ∀ (n n' f f' : Int) , n = n' → f = f' → 1 ≤ f → f ≤ 9223372036854775808 → ¬ (u2 < u1 ∧ o2 < o1) →
        (bif a == b then bif c == d then ((word_Rem a c).1, (word_Rem a c).1, true) else
            bif decide ((if absI b > absI a then absI b else absI a) < n) then (a, b, true) else bif decide (a < 0) then (bif decide (b > 0) then ((if IntKind.i64.wrap (0 - IntKind.i64.wrap (IntKind.u64.wrap (f - 1))) > a then IntKind.i64.wrap (0 - IntKind.i64.wrap (IntKind.u64.wrap (f - 1))) else a), (if IntKind.i64.wrap (IntKind.u64.wrap (f - 1)) < b then IntKind.i64.wrap (IntKind.u64.wrap (f - 1)) else b), true) else ((if IntKind.i64.wrap (0 - IntKind.i64.wrap (IntKind.u64.wrap (f - 1))) > a then IntKind.i64.wrap (0 - IntKind.i64.wrap (IntKind.u64.wrap (f - 1))) else a), 0, true)) else (bif decide (b > 0) then (0, (if IntKind.i64.wrap (IntKind.u64.wrap (f - 1)) < b then IntKind.i64.wrap (IntKind.u64.wrap (f - 1)) else b), true) else (0, 0, true))
          else
            bif decide ((if absI b > absI a then absI b else absI a) < n) then (a, b, true) else bif decide (a < 0) then (bif decide (b > 0) then ((if IntKind.i64.wrap (0 - IntKind.i64.wrap (IntKind.u64.wrap (f - 1))) > a then IntKind.i64.wrap (0 - IntKind.i64.wrap (IntKind.u64.wrap (f - 1))) else a), (if IntKind.i64.wrap (IntKind.u64.wrap (f - 1)) < b then IntKind.i64.wrap (IntKind.u64.wrap (f - 1)) else b), true) else ((if IntKind.i64.wrap (0 - IntKind.i64.wrap (IntKind.u64.wrap (f - 1))) > a then IntKind.i64.wrap (0 - IntKind.i64.wrap (IntKind.u64.wrap (f - 1))) else a), 0, true)) else (bif decide (b > 0) then (0, (if IntKind.i64.wrap (IntKind.u64.wrap (f - 1)) < b then IntKind.i64.wrap (IntKind.u64.wrap (f - 1)) else b), true) else (0, 0, true)))
        = (bif a == b then bif c == d then (bif ((!decide (c = 0) && true && true) || (bif c != -1 then (!decide (c = 0) && true) else true)) then ((bif c != -1 then a.tmod c else 0), (bif c != -1 then a.tmod c else 0), true) else (0, 0, false)) else
            bif decide ((if absI b > absI a then absI b else absI a) < n') then (a, b, true) else ((if (if IntKind.i64.wrap (0 - IntKind.i64.wrap (IntKind.u64.wrap (f' - 1))) > a then IntKind.i64.wrap (0 - IntKind.i64.wrap (IntKind.u64.wrap (f' - 1))) else a) < 0 then (if IntKind.i64.wrap (0 - IntKind.i64.wrap (IntKind.u64.wrap (f' - 1))) > a then IntKind.i64.wrap (0 - IntKind.i64.wrap (IntKind.u64.wrap (f' - 1))) else a) else 0), (if (if IntKind.i64.wrap (IntKind.u64.wrap (f' - 1)) < b then IntKind.i64.wrap (IntKind.u64.wrap (f' - 1)) else b) > 0 then (if IntKind.i64.wrap (IntKind.u64.wrap (f' - 1)) < b then IntKind.i64.wrap (IntKind.u64.wrap (f' - 1)) else b) else 0), true)
          else
            bif decide ((if absI b > absI a then absI b else absI a) < n') then (a, b, true) else ((if (if IntKind.i64.wrap (0 - IntKind.i64.wrap (IntKind.u64.wrap (f' - 1))) > a then IntKind.i64.wrap (0 - IntKind.i64.wrap (IntKind.u64.wrap (f' - 1))) else a) < 0 then (if IntKind.i64.wrap (0 - IntKind.i64.wrap (IntKind.u64.wrap (f' - 1))) > a then IntKind.i64.wrap (0 - IntKind.i64.wrap (IntKind.u64.wrap (f' - 1))) else a) else 0), (if (if IntKind.i64.wrap (IntKind.u64.wrap (f' - 1)) < b then IntKind.i64.wrap (IntKind.u64.wrap (f' - 1)) else b) > 0 then (if IntKind.i64.wrap (IntKind.u64.wrap (f' - 1)) < b then IntKind.i64.wrap (IntKind.u64.wrap (f' - 1)) else b) else 0), true)) := by
        intro n n' f f' hn hf h1f h2f hne
        subst hn hf
        have w1 : IntKind.i64.wrap (IntKind.u64.wrap (f - 1)) = f - 1 := by rw [wu_id (by omega) (by omega), wi_id (by omega) (by omega)]
        have w2 : IntKind.i64.wrap (0 - (f - 1)) = -(f - 1) := by rw [wi_id (by omega) (by omega)]; omega
        rw [w1, w2, rem_tail (f := f) (by omega) (by omega) _ _ rfl]
        by_cases e : c = d
        · rw [sg hne e]
        · have e0 : (c == d) = false := by simpa using e
          rw [e0]; rfl
      by_cases hu : u2 < u1
      · by_cases ho : o2 < o1
        · rw [decide_eq_true hu, decide_eq_true ho]; rfl
        · have g := fo ho
          rw [decide_eq_true hu, decide_eq_false ho]
          simp only [cond_true, cond_false, Bool.not_true, Bool.not_false]
          have a1 : absI o1 = o1 := by unfold absI; rw [if_neg (by omega)]
          have a2 : absI o2 = o2 := by unfold absI; rw [if_neg (by omega)]
          rw [a1, a2]
          refine fin _ _ _ _ ?_ ?_ ?_ ?_ (by omega)
          · (repeat' split) <;> omega
          · (repeat' split) <;> omega
          · (repeat' split) <;> omega
          · (repeat' split) <;> omega
      · have gu := fu hu
        have a3 : absI u1 = -u1 := by unfold absI; rw [if_pos (by omega)]
        have a4 : absI u2 = -u2 := by unfold absI; rw [if_pos (by omega)]
        by_cases ho : o2 < o1
        · rw [decide_eq_false hu, decide_eq_true ho, a3, a4]
          simp only [cond_true, cond_false, Bool.not_true, Bool.not_false]
          refine fin _ _ _ _ ?_ ?_ ?_ ?_ (by omega)
          · (repeat' split) <;> omega
          · (repeat' split) <;> omega
          · (repeat' split) <;> omega
          · (repeat' split) <;> omega
        · have g := fo ho
          have a1 : absI o1 = o1 := by unfold absI; rw [if_neg (by omega)]
          have a2 : absI o2 = o2 := by unfold absI; rw [if_neg (by omega)]
          rw [decide_eq_false hu, decide_eq_false ho, a1, a2, a3, a4]
          simp only [cond_true, cond_false, Bool.not_true, Bool.not_false]
          refine fin _ _ _ _ ?_ ?_ ?_ ?_ (by omega)
          · (repeat' split) <;> omega
          · (repeat' split) <;> omega
          · (repeat' split) <;> omega
          · (repeat' split) <;> omega
end Go.Proofs.YtonpbbhlmapbdaaGreatDoor.V.A
