/- num.Widen at any thresholds: what it answers, its contract; Rows of widenings: each holds what it was widened by, and what is left to change grows less. Conditions: none. -/
import Derived.Test.YtmadebejnhinoaaDoorVA
import Derived.Test.YtmadebejnhinoaaDoorKA

set_option linter.unusedVariables false
set_option linter.unusedSimpArgs false
namespace Go.Proofs.YtmadebejnhinoaaDoor.V
open Go Go.Wk Go.RowKit

theorem lo_bd (b : Int) : ∀ (zs : List Int) (x : Int), x ≤ loS b zs x ∧ (x ≤ b → loS b zs x ≤ b) ∧ (loS b zs x = x ∨ loS b zs x ∈ zs)
  | [], x => ⟨Int.le_refl _, id, .inl rfl⟩
  | t :: r, x => by
    obtain ⟨h1, h2, h3⟩ := lo_bd b r (if t ≤ b then (if x < t then t else x) else x)
    have e : loS b (t :: r) x = loS b r (if t ≤ b then (if x < t then t else x) else x) := rfl
    rw [e]
    refine ⟨Int.le_trans ?_ h1, fun h => h2 ?_, ?_⟩
    · split
      · split <;> omega
      · omega
    · split
      · split <;> omega
      · omega
    · rcases h3 with h3 | h3
      · rw [h3]
        split
        · split
          · exact .inr (by simp)
          · exact .inl rfl
        · exact .inl rfl
      · exact .inr (List.mem_cons_of_mem _ h3)
theorem hi_bd (b : Int) : ∀ (zs : List Int) (x : Int), hiS b zs x ≤ x ∧ (b ≤ x → b ≤ hiS b zs x) ∧ (hiS b zs x = x ∨ hiS b zs x ∈ zs)
  | [], x => ⟨Int.le_refl _, id, .inl rfl⟩
  | t :: r, x => by
    obtain ⟨h1, h2, h3⟩ := hi_bd b r (if t ≥ b then (if t < x then t else x) else x)
    have e : hiS b (t :: r) x = hiS b r (if t ≥ b then (if t < x then t else x) else x) := rfl
    rw [e]
    refine ⟨Int.le_trans h1 ?_, fun h => h2 ?_, ?_⟩
    · split
      · split <;> omega
      · omega
    · split
      · split <;> omega
      · omega
    · rcases h3 with h3 | h3
      · rw [h3]
        split
        · split
          · exact .inr (by simp)
          · exact .inl rfl
        · exact .inl rfl
      · exact .inr (List.mem_cons_of_mem _ h3)
/-- the ends of a widening -/
structure WE (a0 a1 b0 b1 : Int) (zs : List Int) (l h : Int) : Prop where
  Il : I64 l
  Ih : I64 h
  la : l ≤ a0
  lb : l ≤ b0
  ha : a1 ≤ h
  hb : b1 ≤ h
  lt : l = a0 ∨ (l ∈ (-9223372036854775808 : Int) :: zs ∧ b0 < a0)
  ht : h = a1 ∨ (h ∈ (9223372036854775807 : Int) :: zs ∧ a1 < b1)
theorem wid_ends {a0 a1 b0 b1 : Int} {zs : List Int} (i0 : I64 a0) (i1 : I64 a1) (j0 : I64 b0) (j1 : I64 b1) (h : a0 ≤ a1) (h' : b0 ≤ b1) : WE a0 a1 b0 b1 zs (wid a0 a1 b0 b1 zs).1 (wid a0 a1 b0 b1 zs).2 := by
  unfold wid
  rw [widenI_main h h']
  obtain ⟨l1, l2, l3⟩ := lo_bd b0 zs (-9223372036854775808)
  obtain ⟨h1, h2, h3⟩ := hi_bd b1 zs 9223372036854775807
  unfold I64 at *
  have l2 := l2 (by omega)
  have h2 := h2 (by omega)
  refine ⟨?_, ?_, ?_, ?_, ?_, ?_, ?_, ?_⟩
  · show I64 (if b0 < a0 then _ else _)
    unfold I64
    split <;> omega
  · show I64 (if b1 > a1 then _ else _)
    unfold I64
    split <;> omega
  · show (if b0 < a0 then _ else _) ≤ a0
    split <;> omega
  · show (if b0 < a0 then _ else _) ≤ b0
    split <;> omega
  · show a1 ≤ (if b1 > a1 then _ else _)
    split <;> omega
  · show b1 ≤ (if b1 > a1 then _ else _)
    split <;> omega
  · show (if b0 < a0 then _ else _) = a0 ∨ (if b0 < a0 then _ else _) ∈ _ ∧ _
    split
    · rename_i q
      right
      refine ⟨?_, q⟩
      rcases l3 with e | e
      · rw [e]; simp
      · exact List.mem_cons_of_mem _ e
    · exact .inl rfl
  · show (if b1 > a1 then _ else _) = a1 ∨ (if b1 > a1 then _ else _) ∈ _ ∧ _
    split
    · rename_i q
      right
      refine ⟨?_, by omega⟩
      rcases h3 with e | e
      · rw [e]; simp
      · exact List.mem_cons_of_mem _ e
    · exact .inl rfl
/-- Widen of two normal forms -/
def widN (X Y : Nm) (zs : List Int) : Nm := if X.1 = true then Y else if Y.1 = true then X else
  makeS (wid X.2.1 X.2.2.1 Y.2.1 Y.2.2.1 zs).1 (wid X.2.1 X.2.2.1 Y.2.1 Y.2.2.1 zs).2 (if B.leqS Y.2.2.2.1 Y.2.2.2.2 X.2.2.2.1 X.2.2.2.2 = true then X.2.2.2.1 else 1) (if B.leqS Y.2.2.2.1 Y.2.2.2.2 X.2.2.2.1 X.2.2.2.2 = true then X.2.2.2.2 else 0)
theorem nwid_v {γ : Type} (n : γ) (k : Nm → γ) {G0 : Glob} {thr : Value} {zs : List Int} {a0 b0 : Bool} {a1 a2 a3 a4 b1 b2 b3 b4 : Int} (h : Raw (a0, a1, a2, a3, a4)) (h' : Raw (b0, b1, b2, b3, b4)) :
    nwid.c n k G0 thr zs a0 a1 a2 a3 a4 b0 b1 b2 b3 b4 = k (widN (normS (a0, a1, a2, a3, a4)) (normS (b0, b1, b2, b3, b4)) zs) := by
  unfold nwid.c nwid.c0
  simp only [num_Norm_s h, num_Norm_s h', eqV_self]
  have nX := norm_nf h
  have nY := norm_nf h'
  generalize normS (a0, a1, a2, a3, a4) = X at *
  generalize normS (b0, b1, b2, b3, b4) = Y at *
  unfold widN
  by_cases hx : X.1 = true
  · rw [if_pos hx, hx]; rfl
  have hx' : X.1 = false := by simpa using hx
  rw [if_neg hx, hx']
  by_cases hy : Y.1 = true
  · rw [if_pos hy, hy]
    exact congrArg k (show (false, X.2) = X from Prod.ext hx'.symm rfl)
  have hy' : Y.1 = false := by simpa using hy
  rw [if_neg hy, hy']
  have rX := nX.raw
  have rY := nY.raw
  have zX := nX.nz hx'
  have zY := nY.nz hy'
  have w := wid_ends (zs := zs) rX.l rX.h rY.l rY.h zX.le zY.le
  simp only [B.leq_ok rY.m rY.r rX.m rX.r, B.leq_s rY.m rY.r rX.m rX.r, cond_true, cond_false]
  cases hc : B.leqS Y.2.2.2.1 Y.2.2.2.2 X.2.2.2.1 X.2.2.2.2 with
  | true =>
    simp only [Bool.not_true, cond_false, num_Make_s w.Il w.Ih rX.m rX.r]
    rfl
  | false =>
    simp only [Bool.not_false, cond_true, num_Make_s w.Il w.Ih U1 U0]
    rfl
theorem nwid_walk {W : World} (hG : GOK G W) {a : Option Addr} {cap : Nat} {zs : List Int} (hz : Thr W a zs) {x y : Nm} (hx : Raw x) (hy : Raw y) :
    Calls P 29 #[.agg #[.bool x.1, .int .i64 x.2.1, .int .i64 x.2.2.1, .int .u64 x.2.2.2.1, .int .u64 x.2.2.2.2], .agg #[.bool y.1, .int .i64 y.2.1, .int .i64 y.2.2.1, .int .u64 y.2.2.2.1, .int .u64 y.2.2.2.2], .slice a zs.length cap] W
      fun e w' => e = .returned (.agg #[.bool (widN (normS x) (normS y) zs).1, .int .i64 (widN (normS x) (normS y) zs).2.1, .int .i64 (widN (normS x) (normS y) zs).2.2.1, .int .u64 (widN (normS x) (normS y) zs).2.2.2.1, .int .u64 (widN (normS x) (normS y) zs).2.2.2.2]) ∧ Below W.heap.size W w' := by
  obtain ⟨G', hK, hG'⟩ := kept_of hG hz
  obtain ⟨a0, a1, a2, a3, a4⟩ := x
  obtain ⟨b0, b1, b2, b3, b4⟩ := y
  refine runF_calls' hK.cx.mixed hK.cx.names (L_wid.t (cap := cap) hK) (H := { merge := true, glue := true }) (d := 60) (fun c _ => LoopsOK_nil c) Tryd.func29 hG' (gok_lt hK.cx hG') (vs := [.agg #[.bool a0, .int .i64 a1, .int .i64 a2, .int .u64 a3, .int .u64 a4], .agg #[.bool b0, .int .i64 b1, .int .i64 b2, .int .u64 b3, .int .u64 b4], .slice a zs.length cap]) ?_
  rw [nwid.r, nwid_v _ _ hx hy]
end Go.Proofs.YtmadebejnhinoaaDoor.V


set_option linter.unusedVariables false
set_option linter.unusedSimpArgs false
namespace Go.Proofs.YtmadebejnhinoaaDoor.V
open Go Go.Wk Go.RowKit

def cntL : List Int → Int → Int
  | [], _ => 0
  | t :: r, x => (if t ≤ x then 1 else 0) + cntL r x
def cntH : List Int → Int → Int
  | [], _ => 0
  | t :: r, x => (if x ≤ t then 1 else 0) + cntH r x
theorem cntL_le : ∀ (zs : List Int) (x : Int), 0 ≤ cntL zs x ∧ cntL zs x ≤ zs.length
  | [], x => ⟨Int.le_refl _, Int.le_refl _⟩
  | t :: r, x => by
    have := cntL_le r x
    simp only [cntL, List.length_cons]
    split <;> omega
theorem cntH_le : ∀ (zs : List Int) (x : Int), 0 ≤ cntH zs x ∧ cntH zs x ≤ zs.length
  | [], x => ⟨Int.le_refl _, Int.le_refl _⟩
  | t :: r, x => by
    have := cntH_le r x
    simp only [cntH, List.length_cons]
    split <;> omega
theorem cntL_mono {x y : Int} (h : x ≤ y) : ∀ zs : List Int, cntL zs x ≤ cntL zs y
  | [] => Int.le_refl _
  | t :: r => by
    have := cntL_mono h r
    simp only [cntL]
    split <;> split <;> omega
theorem cntH_mono {x y : Int} (h : x ≤ y) : ∀ zs : List Int, cntH zs y ≤ cntH zs x
  | [] => Int.le_refl _
  | t :: r => by
    have := cntH_mono h r
    simp only [cntH]
    split <;> split <;> omega
theorem cntL_lt {x y t : Int} (h : x < t) (h' : t ≤ y) : ∀ {zs : List Int}, t ∈ zs → cntL zs x + 1 ≤ cntL zs y
  | u :: r, hm => by
    rcases List.mem_cons.1 hm with rfl | hm
    · have := cntL_mono (show x ≤ y by omega) r
      simp only [cntL]
      rw [if_neg (by omega), if_pos h']
      omega
    · have := cntL_lt h h' hm
      simp only [cntL]
      split <;> split <;> omega
theorem cntH_lt {x y t : Int} (h : x ≤ t) (h' : t < y) : ∀ {zs : List Int}, t ∈ zs → cntH zs y + 1 ≤ cntH zs x
  | u :: r, hm => by
    rcases List.mem_cons.1 hm with rfl | hm
    · have := cntH_mono (show x ≤ y by omega) r
      simp only [cntH]
      rw [if_neg (by omega), if_pos h]
      omega
    · have := cntH_lt h h' hm
      simp only [cntH]
      split <;> split <;> omega
abbrev tsL (zs : List Int) : List Int := (-9223372036854775808 : Int) :: zs
abbrev tsH (zs : List Int) : List Int := (9223372036854775807 : Int) :: zs
/-- how often an end may change yet -/
def eL (zs : List Int) (m l : Int) : Int := if m = 1 then cntL (tsL zs) (l - 1) else max (cntL (tsL zs) l) (cntL (tsL zs) (l - m) + 1)
def eH (zs : List Int) (m h : Int) : Int := if m = 1 then cntH (tsH zs) (h + 1) else max (cntH (tsH zs) h) (cntH (tsH zs) (h + m) + 1)
def pot (zs : List Int) (x : Nm) : Int := if x.1 = true then 2 * zs.length + 6 else (if x.2.2.2.1 = 1 then 0 else 1) + eL zs x.2.2.2.1 x.2.1 + eH zs x.2.2.2.1 x.2.2.1
theorem eL_le (zs : List Int) (m l : Int) : 0 ≤ eL zs m l ∧ eL zs m l ≤ zs.length + 2 := by
  have h1 := cntL_le (tsL zs) (l - 1)
  have h2 := cntL_le (tsL zs) l
  have h3 := cntL_le (tsL zs) (l - m)
  simp only [List.length_cons] at h1 h2 h3
  unfold eL
  split <;> omega
theorem eH_le (zs : List Int) (m h : Int) : 0 ≤ eH zs m h ∧ eH zs m h ≤ zs.length + 2 := by
  have h1 := cntH_le (tsH zs) (h + 1)
  have h2 := cntH_le (tsH zs) h
  have h3 := cntH_le (tsH zs) (h + m)
  simp only [List.length_cons] at h1 h2 h3
  unfold eH
  split <;> omega
theorem pot_le (zs : List Int) (x : Nm) : 0 ≤ pot zs x ∧ pot zs x ≤ 2 * zs.length + 6 ∧ (x.1 = false → pot zs x ≤ 2 * zs.length + 5) := by
  have h1 := eL_le zs x.2.2.2.1 x.2.1
  have h2 := eH_le zs x.2.2.2.1 x.2.2.1
  unfold pot
  cases x.1 with
  | true => simp; omega
  | false =>
    simp only [Bool.false_eq_true, if_false]
    split <;> simp <;> omega
/-- an end that goes to the next threshold of its class -/
theorem eL_dec {zs : List Int} {m l l' t : Int} (hm : 1 ≤ m) (ht : t ∈ tsL zs) (h1 : t ≤ l') (h2 : l' - m < t) (h3 : l' ≤ l - m) : eL zs m l' + 1 ≤ eL zs m l := by
  have a := cntL_lt h2 h1 ht
  have b := cntL_mono h3 (tsL zs)
  unfold eL
  split
  · rename_i e; subst e; omega
  · omega
theorem eH_dec {zs : List Int} {m l l' t : Int} (hm : 1 ≤ m) (ht : t ∈ tsH zs) (h1 : l' ≤ t) (h2 : t < l' + m) (h3 : l + m ≤ l') : eH zs m l' + 1 ≤ eH zs m l := by
  have a := cntH_lt h1 h2 ht
  have b := cntH_mono h3 (tsH zs)
  unfold eH
  split
  · rename_i e; subst e; omega
  · omega
theorem eL_top {zs : List Int} {m l l' : Int} (hm : m ≠ 1) (h : l' ≤ l) : eL zs 1 l' ≤ eL zs m l := by
  have b := cntL_mono (show l' - 1 ≤ l by omega) (tsL zs)
  unfold eL
  rw [if_pos rfl, if_neg hm]
  omega
theorem eH_top {zs : List Int} {m l l' : Int} (hm : m ≠ 1) (h : l ≤ l') : eH zs 1 l' ≤ eH zs m l := by
  have b := cntH_mono (show l ≤ l' + 1 by omega) (tsH zs)
  unfold eH
  rw [if_pos rfl, if_neg hm]
  omega
theorem has_sub {m r u v : Int} (hu : B.hasS m r u = true) (hv : B.hasS m r v = true) : m ∣ u - v := by
  rw [B.has_iff] at hu hv
  have := Int.dvd_sub hu hv
  rwa [show u - B.val m r - (v - B.val m r) = u - v by omega] at this
theorem has_add {m r u : Int} (hu : B.hasS m r u = true) (k : Int) : B.hasS m r (u + k * m) = true := by
  rw [B.has_iff] at hu ⊢
  rw [show u + k * m - B.val m r = (u - B.val m r) + k * m by omega]
  exact Int.dvd_add hu (Int.dvd_mul_left k m)
theorem widN_spec {X Y : Nm} (nX : NF X) (nY : NF Y) (zs : List Int) : NF (widN X Y zs) ∧ Sub X (widN X Y zs) ∧ Sub Y (widN X Y zs) ∧ (widN X Y zs ≠ X → pot zs (widN X Y zs) + 1 ≤ pot zs X) := by
  unfold widN
  by_cases hx : X.1 = true
  · rw [if_pos hx]
    refine ⟨nY, bot_sub _ hx, Sub.rfl' _, fun hne => ?_⟩
    have hY : Y.1 = false := by
      cases h : Y.1 with
      | false => rfl
      | true => exact absurd ((nf_bot nY h).trans (nf_bot nX hx).symm) hne
    have := (pot_le zs Y).2.2 hY
    have e : pot zs X = 2 * zs.length + 6 := by unfold pot; rw [if_pos hx]
    omega
  rw [if_neg hx]
  have hx' : X.1 = false := by simpa using hx
  by_cases hy : Y.1 = true
  · rw [if_pos hy]
    exact ⟨nX, Sub.rfl' _, bot_sub _ hy, fun h => absurd rfl h⟩
  rw [if_neg hy]
  have hy' : Y.1 = false := by simpa using hy
  have rX := nX.raw
  have rY := nY.raw
  have zX := nX.nz hx'
  have zY := nY.nz hy'
  have w := wid_ends (zs := zs) rX.l rX.h rY.l rY.h zX.le zY.le
  generalize (wid X.2.1 X.2.2.1 Y.2.1 Y.2.2.1 zs).1 = l at w ⊢
  generalize (wid X.2.1 X.2.2.1 Y.2.1 Y.2.2.1 zs).2 = h at w ⊢
  -- what is common to both classes
  have common : ∀ {m r : Int}, U64 m → U64 r → (∀ v, In X v → B.hasS m r v = true) → (∀ v, In Y v → B.hasS m r v = true) →
      NF (makeS l h m r) ∧ Sub X (makeS l h m r) ∧ Sub Y (makeS l h m r) ∧ (makeS l h m r ≠ X → makeS l h m r = (false, (B.upS m r l).1, (B.dnS m r h).1, m, B.nr m r) ∧ (B.upS m r l).1 < (B.dnS m r h).1 ∧ (B.upS m r l).1 ≤ X.2.1 ∧ X.2.2.1 ≤ (B.dnS m r h).1 ∧
        l ≤ (B.upS m r l).1 ∧ (B.dnS m r h).1 ≤ h ∧ B.hasS m r (B.upS m r l).1 = true ∧ B.hasS m r (B.dnS m r h).1 = true) := by
    intro m r hm hr sX sY
    have n := make_nf w.Il w.Ih hm hr
    have s1 : Sub X (makeS l h m r) := fun v hv i => (make_in w.Il w.Ih hm hr hv).2 ⟨⟨by have := i.2.1.1; have := w.la; omega, by have := i.2.1.2; have := w.ha; omega⟩, sX v i⟩
    have s2 : Sub Y (makeS l h m r) := fun v hv i => (make_in w.Il w.Ih hm hr hv).2 ⟨⟨by have := i.2.1.1; have := w.lb; omega, by have := i.2.1.2; have := w.hb; omega⟩, sY v i⟩
    refine ⟨n, s1, s2, fun hne => ?_⟩
    have i1 := s1 _ rX.l zX.l
    have hz : (makeS l h m r).1 = false := i1.1
    have notc : ∀ z, I64 z → makeS l h m r ≠ constS z := by
      intro z hz' e
      apply hne
      rw [e] at s1 ⊢
      refine (nf_ext nX (.one hz') s1 fun v hv i => ?_).symm
      have e1 := (in_const hz').1 i
      have e2 := (in_const hz').1 (s1 _ rX.l zX.l)
      rw [e1, ← e2]
      exact zX.l
    obtain ⟨u1, u2, u3, u4⟩ := B.up_spec hm hr w.Il
    obtain ⟨d1, d2, d3, d4⟩ := B.dn_spec hm hr w.Ih
    obtain ⟨q1, q2⟩ := u4 _ rX.l w.la (sX _ zX.l)
    obtain ⟨q3, q4⟩ := d4 _ rX.h w.ha (sX _ zX.h)
    by_cases hb : h < l ∨ (B.upS m r l).2 = false ∨ (B.dnS m r h).2 = false ∨ (B.dnS m r h).1 < (B.upS m r l).1
    · unfold makeS at hz
      rw [if_pos hb] at hz
      simp [botS] at hz
    · by_cases he : (B.upS m r l).1 = (B.dnS m r h).1
      · exfalso
        apply notc _ u1
        unfold makeS
        rw [if_neg hb, if_pos he]
        rfl
      · refine ⟨?_, by omega, q2, q4, (u2 q1).1, (d2 q3).1, (u2 q1).2, (d2 q3).2⟩
        unfold makeS
        rw [if_neg hb, if_neg he]
  cases hc : B.leqS Y.2.2.2.1 Y.2.2.2.2 X.2.2.2.1 X.2.2.2.2 with
  | true =>
    rw [if_pos rfl, if_pos rfl]
    have hleq := (B.leq_iff rY.r rX.r).1 hc
    obtain ⟨n, s1, s2, hd⟩ := common rX.m rX.r (fun v i => i.2.2) (fun v i => by
      have := i.2.2
      rw [B.has_iff] at this ⊢
      have e : v - B.val X.2.2.2.1 X.2.2.2.2 = (v - B.val Y.2.2.2.1 Y.2.2.2.2) + (B.val Y.2.2.2.1 Y.2.2.2.2 - B.val X.2.2.2.1 X.2.2.2.2) := by omega
      rw [e]
      exact Int.dvd_add (Int.dvd_trans hleq.1 this) hleq.2)
    refine ⟨n, s1, s2, fun hne => ?_⟩
    obtain ⟨e, hlt, hl, hh, ll, hh', b1, b2⟩ := hd hne
    have hm0 : 0 ≤ X.2.2.2.1 := rX.m.1
    obtain ⟨u1, u2, u3, u4⟩ := B.up_spec rX.m rX.r w.Il
    obtain ⟨d1, d2, d3, d4⟩ := B.dn_spec rX.m rX.r w.Ih
    generalize (B.upS X.2.2.2.1 X.2.2.2.2 l) = up at *
    generalize (B.dnS X.2.2.2.1 X.2.2.2.2 h) = dn at *
    rw [e]
    have dv := has_sub b2 b1
    have hmpos : 1 ≤ X.2.2.2.1 := by
      rcases Classical.em (0 < X.2.2.2.1) with h' | h'
      · omega
      · have hz : X.2.2.2.1 = 0 := by omega
        rw [hz, Int.zero_dvd] at dv
        omega
    have L1 := has_sub zX.l.2.2 b1
    have H1 := has_sub b2 zX.h.2.2
    have gapL : up.1 ≠ X.2.1 → up.1 ≤ X.2.1 - X.2.2.2.1 := fun q => by
      have := Int.le_of_dvd (by omega) L1
      omega
    have gapH : dn.1 ≠ X.2.2.1 → X.2.2.1 + X.2.2.2.1 ≤ dn.1 := fun q => by
      have := Int.le_of_dvd (by omega) H1
      omega
    have lowL : up.1 - X.2.2.2.1 < l := by
      rcases Classical.em (up.1 - X.2.2.2.1 < l) with q | q
      · exact q
      · exfalso
        have q : l ≤ up.1 - X.2.2.2.1 := by omega
        have hI : I64 (up.1 - X.2.2.2.1) := by
          have := w.Il
          unfold I64 at *
          omega
        have := (u4 _ hI q (by have := has_add b1 (-1); rwa [show up.1 + -1 * X.2.2.2.1 = up.1 - X.2.2.2.1 by omega] at this)).2
        omega
    have lowH : h < dn.1 + X.2.2.2.1 := by
      rcases Classical.em (h < dn.1 + X.2.2.2.1) with q | q
      · exact q
      · exfalso
        have q : dn.1 + X.2.2.2.1 ≤ h := by omega
        have hI : I64 (dn.1 + X.2.2.2.1) := by
          have := w.Ih
          unfold I64 at *
          omega
        have := (d4 _ hI q (by have := has_add b2 1; rwa [show dn.1 + 1 * X.2.2.2.1 = dn.1 + X.2.2.2.1 by omega] at this)).2
        omega
    have cL : up.1 = X.2.1 ∨ eL zs X.2.2.2.1 up.1 + 1 ≤ eL zs X.2.2.2.1 X.2.1 := by
      by_cases q : up.1 = X.2.1
      · exact .inl q
      · right
        have hne' : l ≠ X.2.1 := fun e' => q (by
          have := (u4 _ rX.l w.la zX.l.2.2).2
          omega)
        rcases w.lt with e' | ⟨e', e''⟩
        · exact absurd e' hne'
        · exact eL_dec hmpos e' ll lowL (gapL q)
    have cH : dn.1 = X.2.2.1 ∨ eH zs X.2.2.2.1 dn.1 + 1 ≤ eH zs X.2.2.2.1 X.2.2.1 := by
      by_cases q : dn.1 = X.2.2.1
      · exact .inl q
      · right
        have hne' : h ≠ X.2.2.1 := fun e' => q (by
          have := (d4 _ rX.h w.ha zX.h.2.2).2
          omega)
        rcases w.ht with e' | ⟨e', e''⟩
        · exact absurd e' hne'
        · exact eH_dec hmpos e' hh' lowH (gapH q)
    have diff : ¬ (up.1 = X.2.1 ∧ dn.1 = X.2.2.1) := by
      rintro ⟨q1, q2⟩
      apply hne
      rw [e, q1, q2]
      have hr : B.nr X.2.2.2.1 X.2.2.2.2 = X.2.2.2.2 := by
        rw [q1, q2] at hlt
        have hmm : X = (false, X.2.1, X.2.2.1, X.2.2.2.1, X.2.2.2.2) := Prod.ext hx' rfl
        cases nX with
        | bot => simp [botS] at hx'
        | one hv => simp [constS] at hlt
        | many hl hh hm hr lt m0 rm i1 i2 =>
          unfold B.nr
          rw [if_neg (by omega), Int.emod_eq_of_lt hr.1 rm]
      rw [hr]
      exact (Prod.ext hx' rfl : X = (false, X.2)).symm
    unfold pot
    simp only [Bool.false_eq_true, if_false, hx']
    rcases cL with q1 | q1
    · rcases cH with q2 | q2
      · exact absurd ⟨q1, q2⟩ diff
      · rw [q1]; omega
    · rcases cH with q2 | q2
      · rw [q2]; omega
      · omega
  | false =>
    rw [if_neg (by simp), if_neg (by simp)]
    obtain ⟨n, s1, s2, hd⟩ := common U1 U0 (fun v _ => has_one v) (fun v _ => has_one v)
    refine ⟨n, s1, s2, fun hne => ?_⟩
    obtain ⟨e, hlt, hl, hh, ll, hh', b1, b2⟩ := hd hne
    have hm1 : X.2.2.2.1 ≠ 1 := by
      intro q
      have : B.leqS Y.2.2.2.1 Y.2.2.2.2 X.2.2.2.1 X.2.2.2.2 = true := by
        rw [B.leq_iff rY.r rX.r, q]
        exact ⟨Int.one_dvd _, Int.one_dvd _⟩
      rw [this] at hc
      simp at hc
    rw [e]
    have c1 := eL_top (zs := zs) hm1 hl
    have c2 := eH_top (zs := zs) hm1 hh
    unfold pot
    simp only [Bool.false_eq_true, if_false, hx', if_true, hm1]
    omega
end Go.Proofs.YtmadebejnhinoaaDoor.V

