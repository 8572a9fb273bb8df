/- Parts: M13, M14, M15, M16. Conditions: none. -/
import Derived.Test.YtonpbbhlmapbdaaGreatDoorM12
set_option linter.unusedVariables false
set_option linter.unusedSimpArgs false
namespace Go.Proofs.YtonpbbhlmapbdaaGreatDoor.V
open Go Go.Wk Go.RowKit
theorem wrap_is {q v : Int} (hv : I64 v) (h : DD ∣ q - v) : IntKind.i64.wrap q = v := by
  obtain ⟨c, e⟩ := h
  unfold I64 at hv
  rw [wi_eq]
  unfold DD at e
  omega
theorem wrap_dd (q : Int) : DD ∣ IntKind.i64.wrap q - q := by
  rw [wi_eq]; exact ⟨-((q + 9223372036854775808) / 18446744073709551616), by unfold DD; omega⟩
theorem wrap_fit {q : Int} (h : A.fit q) : IntKind.i64.wrap q = q := by unfold A.fit at h; exact wi_id (by omega) (by omega)
theorem clip_in {l h v : Int} (hv : I64 v) : In (clipS l h) v ↔ l ≤ v ∧ v ≤ h := by
  unfold clipS
  have b : I64 v := hv
  unfold I64 at b
  split
  · rename_i c
    constructor
    · intro q; exact absurd q.1 (by simp [botS])
    · intro q; exfalso; omega
  · rename_i c
    rw [range_in (by unfold I64; split <;> omega) (by unfold I64; split <;> omega) hv]
    constructor
    · rintro ⟨p, q⟩; split at p <;> split at q <;> omega
    · rintro ⟨p, q⟩; constructor <;> split <;> omega
section
variable {X Y Z : Nm} {v w : Int}
theorem keep1 (nX : NF X) (nZ : NF Z) (hv : I64 v) (ix : In X v) (iz : In Z (resS 1 v w)) : In (negP X Z).1 v := by
  have a := apply_in (op := 1) (y := 0) nZ.raw nZ.raw o1 (resS_I (op := 1) (y := w) hv) I0 iz (fun h => absurd rfl h) (by omega)
  have e : resS 1 (resS 1 v w) 0 = v := by
    show IntKind.i64.wrap (0 - IntKind.i64.wrap (0 - v)) = v
    unfold I64 at hv; rw [wi_eq, wi_eq]; omega
  rw [e] at a
  exact (meet_in nX.raw (apply_nf nZ.raw nZ.raw o1).raw hv).2 ⟨ix, a⟩
theorem keep3 (nX : NF X) (nY : NF Y) (nZ : NF Z) (hv : I64 v) (hw : I64 w) (ix : In X v) (iy : In Y w) (iz : In Z (resS 3 v w)) : In (addP X Y Z).1 v ∧ In (addP X Y Z).2 w := by
  have r := resS_I (op := 3) (y := w) hv
  have a := apply_in (op := 4) nZ.raw nY.raw o4 r hw iz (fun _ => iy) (by omega)
  have b := apply_in (op := 4) nZ.raw nX.raw o4 r hv iz (fun _ => ix) (by omega)
  have e : resS 4 (resS 3 v w) w = v := by
    show IntKind.i64.wrap (IntKind.i64.wrap (v + w) - w) = v
    unfold I64 at hv; rw [wi_eq, wi_eq]; omega
  have e' : resS 4 (resS 3 v w) v = w := by
    show IntKind.i64.wrap (IntKind.i64.wrap (v + w) - v) = w
    unfold I64 at hw; rw [wi_eq, wi_eq]; omega
  rw [e] at a; rw [e'] at b
  exact ⟨(meet_in nX.raw (apply_nf nZ.raw nY.raw o4).raw hv).2 ⟨ix, a⟩, (meet_in nY.raw (apply_nf nZ.raw nX.raw o4).raw hw).2 ⟨iy, b⟩⟩
theorem keep4 (nX : NF X) (nY : NF Y) (nZ : NF Z) (hv : I64 v) (hw : I64 w) (ix : In X v) (iy : In Y w) (iz : In Z (resS 4 v w)) : In (subP X Y Z).1 v ∧ In (subP X Y Z).2 w := by
  have r := resS_I (op := 4) (y := w) hv
  have a := apply_in (op := 3) nZ.raw nY.raw o3 r hw iz (fun _ => iy) (by omega)
  have b := apply_in (op := 4) nX.raw nZ.raw o4 hv r ix (fun _ => iz) (by omega)
  have e : resS 3 (resS 4 v w) w = v := by
    show IntKind.i64.wrap (IntKind.i64.wrap (v - w) + w) = v
    unfold I64 at hv; rw [wi_eq, wi_eq]; omega
  have e' : resS 4 v (resS 4 v w) = w := by
    show IntKind.i64.wrap (v - IntKind.i64.wrap (v - w)) = w
    unfold I64 at hw; rw [wi_eq, wi_eq]; omega
  rw [e] at a; rw [e'] at b
  exact ⟨(meet_in nX.raw (apply_nf nZ.raw nY.raw o3).raw hv).2 ⟨ix, a⟩, (meet_in nY.raw (apply_nf nX.raw nZ.raw o4).raw hw).2 ⟨iy, b⟩⟩
theorem box_fit (nX : In X v) (nY : In Y w) (h : fitP X Y) : A.fit (v * w) := by
  have q := A.mul_box nX.2.1.1 nX.2.1.2 nY.2.1.1 nY.2.1.2
  unfold fitP fits4 A.fit at h
  unfold A.fit
  omega
theorem fac1_keep (nX : NF X) (rY : Raw Y) (rZ : Raw Z) (hv : I64 v) (hw : I64 w) (ix : In X v) (iy : In Y w) (iz : In Z (resS 5 v w)) : In (fac1 X Y Z) v := by
  unfold fac1
  split
  · rename_i o
    have ew : w = Y.2.1 := by have p := iy.2.1; have q := o.1; omega
    obtain ⟨I, d⟩ := inverse_spec rY.l o.2
    have c : In (constS (inv_inverse Y.2.1)) (inv_inverse Y.2.1) := (in_const I).2 rfl
    have a := apply_in (op := 5) rZ (raw_const I) o5 (resS_I (op := 5) (y := w) hv) I iz (fun _ => c) (by omega)
    have e : resS 5 (resS 5 v w) (inv_inverse Y.2.1) = v := by
      show IntKind.i64.wrap (IntKind.i64.wrap (v * w) * inv_inverse Y.2.1) = v
      refine wrap_is hv ?_
      obtain ⟨k, ek⟩ := wrap_dd (v * w)
      obtain ⟨m, em⟩ := d
      rw [← ew] at em ⊢
      have e1 : IntKind.i64.wrap (v * w) = v * w + DD * k := by omega
      have e2 : w * inv_inverse w = 1 + DD * m := by omega
      rw [e1, Int.add_mul, Int.mul_assoc, e2, Int.mul_add, Int.mul_one]
      exact ⟨v * m + k * inv_inverse w, by rw [Int.mul_add, Int.mul_left_comm v, Int.mul_assoc]; omega⟩
    rw [e] at a
    exact (meet_in nX.raw (apply_nf rZ (raw_const I) o5).raw hv).2 ⟨ix, a⟩
  · exact ix
theorem fac_keep (nX : NF X) (rY : Raw Y) (rZ : Raw Z) (hv : I64 v) (hw : I64 w) (ix : In X v) (iy : In Y w) (iz : In Z (resS 5 v w)) : In (facS X Y Z) v := by
  have k := fac1_keep nX rY rZ hv hw ix iy iz
  unfold facS
  split
  · rename_i c
    have w0 : w ≠ 0 := fun q => c.2 (q ▸ iy)
    have f := box_fit ix iy c.1
    have a := apply_in (op := 6) rZ rY o6 (resS_I (op := 5) (y := w) hv) hw iz (fun _ => iy) (fun _ => w0)
    have e : resS 6 (resS 5 v w) w = v := by
      show B.qw (IntKind.i64.wrap (v * w)) w = v
      rw [wrap_fit f]
      unfold B.qw
      split
      · rename_i q; rw [q, show -(v * -1) = v by omega]; unfold I64 at hv; exact wi_id (by omega) (by omega)
      · rw [Int.mul_tdiv_cancel _ w0]; unfold I64 at hv; exact wi_id (by omega) (by omega)
    rw [e] at a
    exact (meet_in (fac1_nf nX rY rZ).raw (apply_nf rZ rY o6).raw hv).2 ⟨k, a⟩
  · exact k
theorem timesX_keep (nX : NF X) (hv : I64 v) (ix : In X v) (h : In Z 0 ∨ v ≠ 0) : In (timesX X Z) v := by
  unfold timesX
  split
  · exact ix
  · rename_i c
    exact (nz_in nX.raw hv).2 ⟨ix, fun q => absurd q (h.resolve_left c)⟩
theorem keep5 (nX : NF X) (nY : NF Y) (nZ : NF Z) (hv : I64 v) (hw : I64 w) (ix : In X v) (iy : In Y w) (iz : In Z (resS 5 v w)) : In (timesP X Y Z).1 v ∧ In (timesP X Y Z).2 w := by
  have hv0 : In Z 0 ∨ v ≠ 0 := by
    by_cases q : v = 0
    · left; have e : resS 5 v w = 0 := by show IntKind.i64.wrap (v * w) = 0; rw [q, Int.zero_mul]; rfl
      rwa [e] at iz
    · exact .inr q
  have hw0 : In Z 0 ∨ w ≠ 0 := by
    by_cases q : w = 0
    · left; have e : resS 5 v w = 0 := by show IntKind.i64.wrap (v * w) = 0; rw [q, Int.mul_zero]; rfl
      rwa [e] at iz
    · exact .inr q
  have kx := timesX_keep (Z := Z) nX hv ix hv0
  have ky := timesX_keep (Z := Z) nY hw iy hw0
  have nx := timesX_nf (z := Z) nX
  have ny := timesX_nf (z := Z) nY
  have iz' : In Z (resS 5 w v) := by
    have e : resS 5 w v = resS 5 v w := by show IntKind.i64.wrap (w * v) = IntKind.i64.wrap (v * w); rw [Int.mul_comm]
    rwa [e]
  unfold timesP
  split
  · exact ⟨kx, ky⟩
  · exact ⟨fac_keep nx ny.raw nZ.raw hv hw kx ky iz, fac_keep ny nx.raw nZ.raw hw hv ky kx iz'⟩
end
theorem tdm (v w : Int) : w * v.tdiv w + v.tmod w = v := Int.mul_tdiv_add_tmod v w
theorem tmod_lt {v w : Int} (h : w ≠ 0) : -(B.av w - 1) ≤ v.tmod w ∧ v.tmod w ≤ B.av w - 1 := by
  rw [tmod_av h]
  have p : 0 < B.av w := by unfold B.av; split <;> omega
  have a := Int.emod_nonneg (B.av v) (by omega : B.av w ≠ 0)
  have b := Int.emod_lt_of_pos (B.av v) p
  split <;> omega
section
variable {X Y Z : Nm} {v w : Int}
theorem av_top (iy : In Y w) : B.av w ≤ (if B.av Y.2.2.1 > B.av Y.2.1 then B.av Y.2.2.1 else B.av Y.2.1) := by
  have a := iy.2.1
  unfold B.av
  (repeat' split) <;> omega
theorem low_le (iz : In Z v) (iy : In Y w) : lowP Z Y ≤ v * w ∧ v * w ≤ topP Z Y := by
  have q := A.mul_box iz.2.1.1 iz.2.1.2 iy.2.1.1 iy.2.1.2
  have a := low4_le (Z.2.1 * Y.2.1) (Z.2.1 * Y.2.2.1) (Z.2.2.1 * Y.2.1) (Z.2.2.1 * Y.2.2.1)
  have b := top4_ge (Z.2.1 * Y.2.1) (Z.2.1 * Y.2.2.1) (Z.2.2.1 * Y.2.1) (Z.2.2.1 * Y.2.2.1)
  unfold lowP topP
  obtain ⟨a1, a2, a3, a4, _⟩ := a
  obtain ⟨b1, b2, b3, b4, _⟩ := b
  omega
theorem keep6 (nX : NF X) (nY : NF Y) (nZ : NF Z) (hv : I64 v) (hw : I64 w) (ix : In X v) (iy : In Y w) (w0 : w ≠ 0) (iz : In Z (resS 6 v w)) : In (overP X Y Z).1 v ∧ In (overP X Y Z).2 w := by
  have it : In (nzS Y) w := (nz_in nY.raw hw).2 ⟨iy, fun q => absurd q w0⟩
  have nt := nz_nf nY.raw
  unfold overP
  generalize nzS Y = T at *
  rw [if_neg (by rw [it.1]; simp)]
  by_cases c : In X (-9223372036854775808) ∧ In T (-1) ∧ In Z (-9223372036854775808)
  · rw [if_pos c]; exact ⟨ix, it⟩
  · rw [if_neg c]
    refine ⟨(meet_in nX.raw (clip_nf _ _).raw hv).2 ⟨ix, (clip_in hv).2 ?_⟩, it⟩
    -- the quotient did not overflow
    have hq : In Z (v.tdiv w) := by
      have e : resS 6 v w = B.qw v w := rfl
      rw [e] at iz
      by_cases k : w = -1
      · by_cases m : v = -9223372036854775808
        · exfalso
          refine c ⟨m ▸ ix, k ▸ it, ?_⟩
          rw [k, m] at iz
          exact iz
        · have e2 : B.qw v w = v.tdiv w := by
            unfold B.qw; rw [if_pos k, k]
            have : v.tdiv (-1) = -v := by rw [Int.tdiv_neg, Int.tdiv_one]
            rw [this]; unfold I64 at hv; exact wi_id (by omega) (by omega)
          rwa [e2] at iz
      · rwa [B.qw_eq hv w0 k] at iz
    have q := low_le hq it
    have m := tmod_lt (v := v) w0
    have d := tdm v w
    have t := av_top it
    rw [Int.mul_comm] at d
    have u := av_U nt.raw.l
    have u2 := av_U nt.raw.h
    have p : 0 < B.av w := by unfold B.av; split <;> omega
    have s : slack T = (if B.av T.2.2.1 > B.av T.2.1 then B.av T.2.2.1 else B.av T.2.1) - 1 := by
      unfold slack; rw [wu_eq]; unfold U64 at u u2
      refine Int.emod_eq_of_lt ?_ ?_
      · omega
      · split <;> omega
    rw [s]
    generalize (if B.av T.2.2.1 > B.av T.2.1 then B.av T.2.2.1 else B.av T.2.1) = M at *
    generalize v.tdiv w * w = P at *
    generalize v.tmod w = R at *
    omega
end
theorem rem_sign {v w : Int} (w0 : w ≠ 0) : (0 < v.tmod w → v.tmod w ≤ v) ∧ (v.tmod w < 0 → v ≤ v.tmod w) := by
  rw [tmod_av w0]
  have p : 0 < B.av w := by unfold B.av; split <;> omega
  have a := Int.emod_nonneg (B.av v) (by omega : B.av w ≠ 0)
  have b : B.av v % B.av w ≤ B.av v := by
    have n := avn v
    have q := Int.mul_ediv_add_emod (B.av v) (B.av w)
    have q2 : 0 ≤ B.av w * (B.av v / B.av w) := Int.mul_nonneg (by omega) (Int.ediv_nonneg n (by omega))
    omega
  have e : B.av v = if v < 0 then -v else v := rfl
  split at e <;> rename_i c
  · rw [if_pos c]; omega
  · rw [if_neg c]; omega
theorem rw_eq {v w : Int} : B.rw' v w = v.tmod w := by
  unfold B.rw'
  split
  · rename_i h; rw [h, Int.tmod_neg, Int.tmod_one]
  · rfl
section
variable {X Y Z T : Nm} {v w r : Int}
theorem class_dvd (nZ : NF Z) (iz : In Z r) : Z.2.2.2.1 ∣ r - Z.2.1 := by
  have n := (nZ.nz iz.1).l.2.2
  have m := iz.2.2
  unfold B.hasS at n m
  split at m
  · rename_i c
    rw [if_pos c] at n
    have e1 := of_decide_eq_true m
    have e2 := of_decide_eq_true n
    rw [e1, ← e2]
    exact ⟨0, by omega⟩
  · rename_i c
    rw [if_neg c] at n
    have e1 := of_decide_eq_true m
    have e2 := of_decide_eq_true n
    exact Int.dvd_of_emod_eq_zero (Int.emod_eq_emod_iff_emod_sub_eq_zero.1 (e1.trans e2.symm))
theorem last_keep {A : Nm} (nA : NF A) (nT : NF T) (nZ : NF Z) (hv : I64 v) (hw : I64 w) (w0 : w ≠ 0) (ia : In A v) (it : In T w) (iz : In Z (v.tmod w)) : In (lastP A T Z).1 v ∧ In (lastP A T Z).2 w := by
  unfold lastP
  by_cases o : T.2.1 = T.2.2.1
  · have e : (!T.1 && (T.2.1 == T.2.2.1)) = true := by rw [it.1, o]; simp
    rw [e]
    refine ⟨(meet_in nA.raw (mod_nf nT.raw nZ.raw).raw hv).2 ⟨ia, ?_⟩, it⟩
    have ew : w = T.2.1 := by have p := it.2.1; omega
    have g := gg_t nT.raw nZ.raw
    have p : 0 < B.av T.2.1 := by rw [← ew]; unfold B.av; split <;> omega
    have gp := B.gg_pos (avn T.2.1) nZ.raw.m.1 (.inl (by omega))
    obtain ⟨d1, d2⟩ := B.gg_dvd (avn T.2.1) nZ.raw.m.1
    unfold modS
    refine (make_in Imin Imax g (B.md_U _ g) hv).2 ⟨by unfold I64 at hv; omega, ?_⟩
    generalize B.gg (B.av T.2.1) Z.2.2.2.1 = G at *
    unfold B.hasS B.md
    rw [if_neg (by omega), if_neg (by omega), decide_eq_true_iff, Int.emod_emod]
    have d3 : G ∣ w := by
      rw [ew]
      have : B.av T.2.1 ∣ T.2.1 := by
        unfold B.av; split
        · exact Int.neg_dvd.2 (Int.dvd_refl _)
        · exact Int.dvd_refl _
      exact Int.dvd_trans d1 this
    have d4 : G ∣ v.tmod w - Z.2.1 := Int.dvd_trans d2 (class_dvd nZ iz)
    have d5 : G ∣ v - Z.2.1 := by
      have e1 := tdm v w
      have e2 : v - Z.2.1 = w * v.tdiv w + (v.tmod w - Z.2.1) := by omega
      rw [e2]
      exact Int.dvd_add (Int.dvd_trans d3 (Int.dvd_mul_right _ _)) d4
    exact Int.emod_eq_emod_iff_emod_sub_eq_zero.2 (Int.emod_eq_zero_of_dvd d5)
  · have e : (!T.1 && (T.2.1 == T.2.2.1)) = false := by simp [o]
    rw [e]; exact ⟨ia, it⟩
theorem restA_nf (nX : NF X) (rZ : Raw Z) : NF (restA X Z) := by
  unfold restA
  split
  · exact meet_nf nX.raw (from_nf rZ.l).raw
  · split
    · exact meet_nf nX.raw (to_nf rZ.h).raw
    · exact nX
theorem away_nf (nT : NF T) (f : Int) : NF (awayS T f) := by
  unfold awayS
  split
  · split
    · exact meet_nf nT.raw (clip_nf _ _).raw
    · split
      · exact meet_nf nT.raw (clip_nf _ _).raw
      · exact nT
  · exact nT
theorem away_keep (nT : NF T) (f : Int) (hw : I64 w) (it : In T w) (h : f ≤ B.av w - 1) : In (awayS T f) w := by
  have b := hw
  unfold I64 at b
  have c := it.2.1
  have e : B.av w = if w < 0 then -w else w := rfl
  unfold awayS
  split
  · split
    · refine (meet_in nT.raw (clip_nf _ _).raw hw).2 ⟨it, (clip_in hw).2 ?_⟩
      rw [if_neg (by omega)] at e; omega
    · split
      · refine (meet_in nT.raw (clip_nf _ _).raw hw).2 ⟨it, (clip_in hw).2 ?_⟩
        rw [if_pos (by omega)] at e; omega
      · exact it
  · exact it
theorem keep7 (nX : NF X) (nY : NF Y) (nZ : NF Z) (hv : I64 v) (hw : I64 w) (ix : In X v) (iy : In Y w) (w0 : w ≠ 0) (iz : In Z (resS 7 v w)) : In (restP X Y Z).1 v ∧ In (restP X Y Z).2 w := by
  have it : In (nzS Y) w := (nz_in nY.raw hw).2 ⟨iy, fun q => absurd q w0⟩
  have nt := nz_nf nY.raw
  have e : resS 7 v w = v.tmod w := rw_eq
  rw [e] at iz
  unfold restP
  generalize nzS Y = T at *
  rw [if_neg (by rw [it.1]; simp)]
  have s := rem_sign (v := v) w0
  have m := tmod_lt (v := v) w0
  have c := iz.2.1
  refine last_keep (restA_nf nX nZ.raw) (away_nf nt _) nZ hv hw w0 ?_ (away_keep nt _ hw it ?_) iz
  · unfold restA
    split
    · exact (meet_in nX.raw (from_nf nZ.raw.l).raw hv).2 ⟨ix, (from_in nZ.raw.l hv).2 (by omega)⟩
    · split
      · exact (meet_in nX.raw (to_nf nZ.raw.h).raw hv).2 ⟨ix, (to_in nZ.raw.h hv).2 (by omega)⟩
      · exact ix
  · have p : 0 < B.av w := by unfold B.av; split <;> omega
    unfold farZ
    split
    · have q : B.av Z.2.1 = Z.2.1 := by unfold B.av; rw [if_neg (by omega)]
      omega
    · split
      · have q : B.av Z.2.2.1 = -Z.2.2.1 := by unfold B.av; rw [if_pos (by omega)]
        omega
      · omega
end
/-- a normal form inside a set -/
def LeN (a b : Nm) : Prop := NF a ∧ Sub a b
theorem LeN.same {a : Nm} (h : NF a) : LeN a a := ⟨h, Sub.rfl' a⟩
theorem LeN.meet {a b c : Nm} (h : LeN a c) (hb : Raw b) : LeN (meetS a b) c := ⟨meet_nf h.1.raw hb, fun v hv i => h.2 v hv ((meet_in h.1.raw hb hv).1 i).1⟩
theorem LeN.nz {a : Nm} (h : NF a) : LeN (nzS a) a := ⟨nz_nf h.raw, fun v hv i => ((nz_in h.raw hv).1 i).1⟩
theorem LeN.bot (b : Nm) : LeN botS b := ⟨.bot, bot_sub b rfl⟩
theorem LeN.trans {a b c : Nm} (h : LeN a b) (h' : Sub b c) : LeN a c := ⟨h.1, h.2.trans h'⟩
section
variable {X Y Z : Nm} {v w op : Int}
theorem timesX_le (nX : NF X) : LeN (timesX X Z) X := by unfold timesX; split; exact .same nX; exact .nz nX
theorem fac_le {A C : Nm} (h : LeN A C) (rY : Raw Y) (rZ : Raw Z) : LeN (facS A Y Z) C := by
  have k : LeN (fac1 A Y Z) C := by
    unfold fac1
    split
    · rename_i o; exact h.meet (apply_nf rZ (raw_const (inverse_spec rY.l o.2).1) o5).raw
    · exact h
  unfold facS
  split
  · exact k.meet (apply_nf rZ rY o6).raw
  · exact k
theorem last_le {A T C D : Nm} (h : LeN A C) (h' : LeN T D) (rZ : Raw Z) : LeN (lastP A T Z).1 C ∧ LeN (lastP A T Z).2 D := by
  unfold lastP
  cases (!T.1 && (T.2.1 == T.2.2.1))
  · exact ⟨h, h'⟩
  · exact ⟨h.meet (mod_nf h'.1.raw rZ).raw, h'⟩
theorem pair_le (o : isOp op) (nX : NF X) (nY : NF Y) (nZ : NF Z) : LeN (pairP op X Y Z).1 X ∧ (op ≠ 1 → LeN (pairP op X Y Z).2 Y) ∧ NF (pairP op X Y Z).2 := by
  have sX := LeN.same nX
  have sY := LeN.same nY
  rcases o with rfl | rfl | rfl | rfl | rfl | rfl
  · exact ⟨sX.meet (apply_nf nZ.raw nZ.raw o1).raw, fun h => absurd rfl h, range_nf Imin Imax⟩
  · have b : LeN (meetS Y (applyS 4 Z X)) Y := sY.meet (apply_nf nZ.raw nX.raw o4).raw
    exact ⟨sX.meet (apply_nf nZ.raw nY.raw o4).raw, fun _ => b, b.1⟩
  · have b : LeN (meetS Y (applyS 4 X Z)) Y := sY.meet (apply_nf nX.raw nZ.raw o4).raw
    exact ⟨sX.meet (apply_nf nZ.raw nY.raw o3).raw, fun _ => b, b.1⟩
  · have kx := timesX_le (Z := Z) nX
    have ky := timesX_le (Z := Z) nY
    have q : LeN (timesP X Y Z).1 X ∧ LeN (timesP X Y Z).2 Y := by
      unfold timesP
      split
      · exact ⟨kx, ky⟩
      · exact ⟨fac_le kx ky.1.raw nZ.raw, fac_le ky kx.1.raw nZ.raw⟩
    exact ⟨q.1, fun _ => q.2, q.2.1⟩
  · have kn := LeN.nz nY
    have q : LeN (overP X Y Z).2 Y := by unfold overP; (repeat' split) <;> exact kn
    have p : (overP X Y Z).1.1 = true ∧ (overP X Y Z) = (nzS Y, nzS Y) ∨ LeN (overP X Y Z).1 X := by
      unfold overP
      split
      · rename_i h; exact .inl ⟨h, rfl⟩
      · right; split
        · exact sX
        · exact sX.meet (clip_nf _ _).raw
    refine ⟨?_, fun _ => q, q.1⟩
    rcases p with ⟨h, e⟩ | p
    · have e1 : (pairP 6 X Y Z).1 = nzS Y := congrArg Prod.fst e
      rw [e1]
      have h : (nzS Y).1 = true := by have := congrArg (fun p => p.1.1) e; exact this ▸ h
      exact ⟨kn.1, bot_sub _ h⟩
    · exact p
  · have kn := LeN.nz nY
    have ra : LeN (restA X Z) X := by
      unfold restA
      split
      · exact sX.meet (from_nf nZ.raw.l).raw
      · split
        · exact sX.meet (to_nf nZ.raw.h).raw
        · exact sX
    have rt : LeN (awayS (nzS Y) (farZ Z)) Y := by
      unfold awayS
      split
      · split
        · exact kn.meet (clip_nf _ _).raw
        · split
          · exact kn.meet (clip_nf _ _).raw
          · exact kn
      · exact kn
    have q : LeN (restP X Y Z).1 X ∧ LeN (restP X Y Z).2 Y := by
      unfold restP
      split
      · rename_i h; exact ⟨⟨kn.1, bot_sub _ h⟩, kn⟩
      · exact last_le ra rt nZ.raw
    exact ⟨q.1, fun _ => q.2, q.2.1⟩
theorem pair_keep (o : isOp op) (nX : NF X) (nY : NF Y) (nZ : NF Z) (hv : I64 v) (hw : I64 w) (ix : In X v) (iy : op ≠ 1 → In Y w) (w0 : (op = 6 ∨ op = 7) → w ≠ 0) (iz : In Z (resS op v w)) : In (pairP op X Y Z).1 v ∧ (op ≠ 1 → In (pairP op X Y Z).2 w) ∧ (pairP op X Y Z).2.1 = false := by
  rcases o with rfl | rfl | rfl | rfl | rfl | rfl
  · exact ⟨keep1 nX nZ hv ix iz, fun h => absurd rfl h, show topS.1 = false by decide +kernel⟩
  · have q := keep3 nX nY nZ hv hw ix (iy (by decide)) iz
    exact ⟨q.1, fun _ => q.2, q.2.1⟩
  · have q := keep4 nX nY nZ hv hw ix (iy (by decide)) iz
    exact ⟨q.1, fun _ => q.2, q.2.1⟩
  · have q := keep5 nX nY nZ hv hw ix (iy (by decide)) iz
    exact ⟨q.1, fun _ => q.2, q.2.1⟩
  · have q := keep6 nX nY nZ hv hw ix (iy (by decide)) (w0 (.inl rfl)) iz
    exact ⟨q.1, fun _ => q.2, q.2.1⟩
  · have q := keep7 nX nY nZ hv hw ix (iy (by decide)) (w0 (.inr rfl)) iz
    exact ⟨q.1, fun _ => q.2, q.2.1⟩
end
section
variable {x y z : Nm} {v w op : Int}
theorem solve_le (o : isOp op) (hx : Raw x) (hy : Raw y) (hz : Raw z) : LeN (solveS op x y z).1 x ∧ (op ≠ 1 → LeN (solveS op x y z).2 y) ∧ NF (solveS op x y z).2 := by
  have p := pair_le o (norm_nf hx) (norm_nf hy) (norm_nf hz)
  have b : LeN (botS, botS).1 x ∧ (op ≠ 1 → LeN (botS, botS).2 y) ∧ NF (botS, botS).2 := ⟨.bot x, fun _ => .bot y, .bot⟩
  unfold solveS
  split
  · exact b
  · unfold bothS
    split
    · exact b
    · exact ⟨p.1.trans (norm_sub hx).1, fun h => (p.2.1 h).trans (norm_sub hy).1, p.2.2⟩
theorem solve_keep (o : isOp op) (hx : Raw x) (hy : Raw y) (hz : Raw z) (hv : I64 v) (hw : I64 w) (ix : In x v) (iy : op ≠ 1 → In y w) (w0 : (op = 6 ∨ op = 7) → w ≠ 0) (iz : In z (resS op v w)) : In (solveS op x y z).1 v ∧ (op ≠ 1 → In (solveS op x y z).2 w) := by
  have jx := (norm_in hx hv).2 ix
  have jy := fun h => (norm_in hy hw).2 (iy h)
  have jz := (norm_in hz (resS_I hv)).2 iz
  have p := pair_keep o (norm_nf hx) (norm_nf hy) (norm_nf hz) hv hw jx jy w0 jz
  unfold solveS
  have nb : ¬ badP op (normS x) (normS y) (normS z) := by
    unfold badP
    rintro (h | h | ⟨h, h'⟩)
    · rw [jx.1] at h; simp at h
    · rw [jz.1] at h; simp at h
    · rw [(jy h').1] at h; simp at h
  rw [if_neg nb]
  unfold bothS
  rw [if_neg (by rintro (h | h); · rw [p.1.1] at h; simp at h
                 · rw [p.2.2] at h; simp at h)]
  exact ⟨p.1, p.2.1⟩
theorem result_k {γ : Type} (n : γ) (k : Int × Bool → γ) (o : isOp op) (hv : I64 v) (hw : I64 w) : law_result.c n k op v w = k (if (op = 6 ∨ op = 7) ∧ w = 0 then (0, false) else (resS op v w, true)) := by
  generalize hq : (if (op = 6 ∨ op = 7) ∧ w = 0 then ((0 : Int), false) else (resS op v w, true)) = Q
  unfold law_result.c law_result.c0
  simp only [Neg_ok, Neg_s, Add_g, Add_s, Sub_ok, Sub_s, Mul_g, Mul_s, Div_ok hv hw, Div_s hv hw, Rem_ok hv hw, Rem_s hv hw, cond_true]
  rcases o with rfl | rfl | rfl | rfl | rfl | rfl
  · have c : ¬ (((1 : Int) = 6 ∨ (1 : Int) = 7) ∧ w = 0) := by omega
    rw [← hq, if_neg c]
    show k (IntKind.i64.wrap (-v), true) = k (IntKind.i64.wrap (0 - v), true)
    rw [show 0 - v = -v by omega]
  · have c : ¬ (((3 : Int) = 6 ∨ (3 : Int) = 7) ∧ w = 0) := by omega
    rw [← hq, if_neg c]; rfl
  · have c : ¬ (((4 : Int) = 6 ∨ (4 : Int) = 7) ∧ w = 0) := by omega
    rw [← hq, if_neg c]; rfl
  · have c : ¬ (((5 : Int) = 6 ∨ (5 : Int) = 7) ∧ w = 0) := by omega
    rw [← hq, if_neg c]; rfl
  · by_cases h : w = 0
    · have c : ((6 : Int) = 6 ∨ (6 : Int) = 7) ∧ w = 0 := ⟨.inl rfl, h⟩
      rw [← hq, if_pos c]; simp only [if_pos h]; rfl
    · have c : ¬ (((6 : Int) = 6 ∨ (6 : Int) = 7) ∧ w = 0) := fun q => h q.2
      rw [← hq, if_neg c]; simp only [if_neg h]
      show k (IntKind.i64.wrap (v.tdiv w), true) = k (B.qw v w, true)
      unfold B.qw
      split
      · rename_i q; rw [q, Int.tdiv_neg, Int.tdiv_one]
      · rfl
  · by_cases h : w = 0
    · have c : ((7 : Int) = 6 ∨ (7 : Int) = 7) ∧ w = 0 := ⟨.inr rfl, h⟩
      rw [← hq, if_pos c]; simp only [if_pos h]; rfl
    · have c : ¬ (((7 : Int) = 6 ∨ (7 : Int) = 7) ∧ w = 0) := fun q => h q.2
      rw [← hq, if_neg c]; simp only [if_neg h]
      show k (v.tmod w, true) = k (B.rw' v w, true)
      rw [rw_eq]
theorem result_ok (o : isOp op) (hv : I64 v) (hw : I64 w) : law_result.ok op v w = true := result_k _ _ o hv hw
theorem result_s (o : isOp op) (hv : I64 v) (hw : I64 w) : law_result op v w = if (op = 6 ∨ op = 7) ∧ w = 0 then (0, false) else (resS op v w, true) := result_k _ _ o hv hw
end
end Go.Proofs.YtonpbbhlmapbdaaGreatDoor.V
