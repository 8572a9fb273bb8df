/- Parts: V5, V6, V7, V8. Conditions: none. -/
import Derived.Test.YtonpbbhlmapbdaaGreatDoorV4
import Derived.Test.YtonpbbhlmapbdaaGreatDoorKC
import Derived.Test.YtonpbbhlmapbdaaGreatDoorH1
set_option linter.unusedVariables false
set_option linter.unusedSimpArgs false
set_option maxHeartbeats 4000000
namespace Go.Proofs.YtonpbbhlmapbdaaGreatDoor.V
open Go Go.Wk Go.RowKit
theorem lo_bd (b : Int) : ∀ (zs : List Int) (x : Int), x ≤ loS b zs x ∧ (x ≤ b → loS b zs x ≤ b) ∧ (loS b zs x = x ∨ loS b zs x ∈ zs)
  | [], x => ⟨Int.le_refl _, id, .inl rfl⟩
  | t :: r, x => by
    obtain ⟨h1, h2, h3⟩ := lo_bd b r (if t ≤ b then (if x < t then t else x) else x)
    have e : loS b (t :: r) x = loS b r (if t ≤ b then (if x < t then t else x) else x) := rfl
    rw [e]
    refine ⟨Int.le_trans ?_ h1, fun h => h2 ?_, ?_⟩
    · split
      · split <;> omega
      · omega
    · split
      · split <;> omega
      · omega
    · rcases h3 with h3 | h3
      · rw [h3]
        split
        · split
          · exact .inr (by simp)
          · exact .inl rfl
        · exact .inl rfl
      · exact .inr (List.mem_cons_of_mem _ h3)
theorem hi_bd (b : Int) : ∀ (zs : List Int) (x : Int), hiS b zs x ≤ x ∧ (b ≤ x → b ≤ hiS b zs x) ∧ (hiS b zs x = x ∨ hiS b zs x ∈ zs)
  | [], x => ⟨Int.le_refl _, id, .inl rfl⟩
  | t :: r, x => by
    obtain ⟨h1, h2, h3⟩ := hi_bd b r (if t ≥ b then (if t < x then t else x) else x)
    have e : hiS b (t :: r) x = hiS b r (if t ≥ b then (if t < x then t else x) else x) := rfl
    rw [e]
    refine ⟨Int.le_trans h1 ?_, fun h => h2 ?_, ?_⟩
    · split
      · split <;> omega
      · omega
    · split
      · split <;> omega
      · omega
    · rcases h3 with h3 | h3
      · rw [h3]
        split
        · split
          · exact .inr (by simp)
          · exact .inl rfl
        · exact .inl rfl
      · exact .inr (List.mem_cons_of_mem _ h3)
/-- the ends of a widening -/
structure WE (a0 a1 b0 b1 : Int) (zs : List Int) (l h : Int) : Prop where
  Il : I64 l
  Ih : I64 h
  la : l ≤ a0
  lb : l ≤ b0
  ha : a1 ≤ h
  hb : b1 ≤ h
  lt : l = a0 ∨ (l ∈ (-9223372036854775808 : Int) :: zs ∧ b0 < a0)
  ht : h = a1 ∨ (h ∈ (9223372036854775807 : Int) :: zs ∧ a1 < b1)
theorem wid_ends {a0 a1 b0 b1 : Int} {zs : List Int} (i0 : I64 a0) (i1 : I64 a1) (j0 : I64 b0) (j1 : I64 b1) (h : a0 ≤ a1) (h' : b0 ≤ b1) : WE a0 a1 b0 b1 zs (wid a0 a1 b0 b1 zs).1 (wid a0 a1 b0 b1 zs).2 := by
  unfold wid
  rw [widenI_main h h']
  obtain ⟨l1, l2, l3⟩ := lo_bd b0 zs (-9223372036854775808)
  obtain ⟨h1, h2, h3⟩ := hi_bd b1 zs 9223372036854775807
  unfold I64 at *
  have l2 := l2 (by omega)
  have h2 := h2 (by omega)
  refine ⟨?_, ?_, ?_, ?_, ?_, ?_, ?_, ?_⟩
  · show I64 (if b0 < a0 then _ else _)
    unfold I64
    split <;> omega
  · show I64 (if b1 > a1 then _ else _)
    unfold I64
    split <;> omega
  · show (if b0 < a0 then _ else _) ≤ a0
    split <;> omega
  · show (if b0 < a0 then _ else _) ≤ b0
    split <;> omega
  · show a1 ≤ (if b1 > a1 then _ else _)
    split <;> omega
  · show b1 ≤ (if b1 > a1 then _ else _)
    split <;> omega
  · show (if b0 < a0 then _ else _) = a0 ∨ (if b0 < a0 then _ else _) ∈ _ ∧ _
    split
    · rename_i q
      right
      refine ⟨?_, q⟩
      rcases l3 with e | e
      · rw [e]; simp
      · exact List.mem_cons_of_mem _ e
    · exact .inl rfl
  · show (if b1 > a1 then _ else _) = a1 ∨ (if b1 > a1 then _ else _) ∈ _ ∧ _
    split
    · rename_i q
      right
      refine ⟨?_, by omega⟩
      rcases h3 with e | e
      · rw [e]; simp
      · exact List.mem_cons_of_mem _ e
    · exact .inl rfl
/-- Widen of two normal forms -/
def widN (X Y : Nm) (zs : List Int) : Nm := if X.1 = true then Y else if Y.1 = true then X else
  makeS (wid X.2.1 X.2.2.1 Y.2.1 Y.2.2.1 zs).1 (wid X.2.1 X.2.2.1 Y.2.1 Y.2.2.1 zs).2 (if B.leqS Y.2.2.2.1 Y.2.2.2.2 X.2.2.2.1 X.2.2.2.2 = true then X.2.2.2.1 else 1) (if B.leqS Y.2.2.2.1 Y.2.2.2.2 X.2.2.2.1 X.2.2.2.2 = true then X.2.2.2.2 else 0)
theorem nwid_v {γ : Type} (n : γ) (k : Nm → γ) {G0 : Glob} {thr : Value} {zs : List Int} {a0 b0 : Bool} {a1 a2 a3 a4 b1 b2 b3 b4 : Int} (h : Raw (a0, a1, a2, a3, a4)) (h' : Raw (b0, b1, b2, b3, b4)) :
    nwid.c n k G0 thr zs a0 a1 a2 a3 a4 b0 b1 b2 b3 b4 = k (widN (normS (a0, a1, a2, a3, a4)) (normS (b0, b1, b2, b3, b4)) zs) := by
  unfold nwid.c nwid.c0
  simp only [num_Norm_s h, num_Norm_s h', eqV_self]
  have nX := norm_nf h
  have nY := norm_nf h'
  generalize normS (a0, a1, a2, a3, a4) = X at *
  generalize normS (b0, b1, b2, b3, b4) = Y at *
  unfold widN
  by_cases hx : X.1 = true
  · rw [if_pos hx, hx]; rfl
  have hx' : X.1 = false := by simpa using hx
  rw [if_neg hx, hx']
  by_cases hy : Y.1 = true
  · rw [if_pos hy, hy]
    exact congrArg k (show (false, X.2) = X from Prod.ext hx'.symm rfl)
  have hy' : Y.1 = false := by simpa using hy
  rw [if_neg hy, hy']
  have rX := nX.raw
  have rY := nY.raw
  have zX := nX.nz hx'
  have zY := nY.nz hy'
  have w := wid_ends (zs := zs) rX.l rX.h rY.l rY.h zX.le zY.le
  simp only [B.leq_ok rY.m rY.r rX.m rX.r, B.leq_s rY.m rY.r rX.m rX.r, cond_true, cond_false]
  cases hc : B.leqS Y.2.2.2.1 Y.2.2.2.2 X.2.2.2.1 X.2.2.2.2 with
  | true =>
    simp only [Bool.not_true, cond_false, num_Make_s w.Il w.Ih rX.m rX.r]
    rfl
  | false =>
    simp only [Bool.not_false, cond_true, num_Make_s w.Il w.Ih U1 U0]
    rfl
theorem nwid_walk {W : World} (hG : GOK G W) {a : Option Addr} {cap : Nat} {zs : List Int} (hz : Thr W a zs) {x y : Nm} (hx : Raw x) (hy : Raw y) :
    Calls P 42 #[.agg #[.bool x.1, .int .i64 x.2.1, .int .i64 x.2.2.1, .int .u64 x.2.2.2.1, .int .u64 x.2.2.2.2], .agg #[.bool y.1, .int .i64 y.2.1, .int .i64 y.2.2.1, .int .u64 y.2.2.2.1, .int .u64 y.2.2.2.2], .slice a zs.length cap] W
      fun e w' => e = .returned (.agg #[.bool (widN (normS x) (normS y) zs).1, .int .i64 (widN (normS x) (normS y) zs).2.1, .int .i64 (widN (normS x) (normS y) zs).2.2.1, .int .u64 (widN (normS x) (normS y) zs).2.2.2.1, .int .u64 (widN (normS x) (normS y) zs).2.2.2.2]) ∧ Below W.heap.size W w' := by
  obtain ⟨G', hK, hG'⟩ := kept_of hG hz
  obtain ⟨a0, a1, a2, a3, a4⟩ := x
  obtain ⟨b0, b1, b2, b3, b4⟩ := y
  refine runF_calls' hK.cx.mixed hK.cx.names (L_wid.t (cap := cap) hK) (H := { merge := true, glue := true }) (d := 60) (fun c _ => LoopsOK_nil c) Tryz.func42 hG' (gok_lt hK.cx hG') (vs := [.agg #[.bool a0, .int .i64 a1, .int .i64 a2, .int .u64 a3, .int .u64 a4], .agg #[.bool b0, .int .i64 b1, .int .i64 b2, .int .u64 b3, .int .u64 b4], .slice a zs.length cap]) ?_
  rw [nwid.r, nwid_v _ _ hx hy]
def cntL : List Int → Int → Int
  | [], _ => 0
  | t :: r, x => (if t ≤ x then 1 else 0) + cntL r x
def cntH : List Int → Int → Int
  | [], _ => 0
  | t :: r, x => (if x ≤ t then 1 else 0) + cntH r x
theorem cntL_le : ∀ (zs : List Int) (x : Int), 0 ≤ cntL zs x ∧ cntL zs x ≤ zs.length
  | [], x => ⟨Int.le_refl _, Int.le_refl _⟩
  | t :: r, x => by
    have := cntL_le r x
    simp only [cntL, List.length_cons]
    split <;> omega
theorem cntH_le : ∀ (zs : List Int) (x : Int), 0 ≤ cntH zs x ∧ cntH zs x ≤ zs.length
  | [], x => ⟨Int.le_refl _, Int.le_refl _⟩
  | t :: r, x => by
    have := cntH_le r x
    simp only [cntH, List.length_cons]
    split <;> omega
theorem cntL_mono {x y : Int} (h : x ≤ y) : ∀ zs : List Int, cntL zs x ≤ cntL zs y
  | [] => Int.le_refl _
  | t :: r => by
    have := cntL_mono h r
    simp only [cntL]
    split <;> split <;> omega
theorem cntH_mono {x y : Int} (h : x ≤ y) : ∀ zs : List Int, cntH zs y ≤ cntH zs x
  | [] => Int.le_refl _
  | t :: r => by
    have := cntH_mono h r
    simp only [cntH]
    split <;> split <;> omega
theorem cntL_lt {x y t : Int} (h : x < t) (h' : t ≤ y) : ∀ {zs : List Int}, t ∈ zs → cntL zs x + 1 ≤ cntL zs y
  | u :: r, hm => by
    rcases List.mem_cons.1 hm with rfl | hm
    · have := cntL_mono (show x ≤ y by omega) r
      simp only [cntL]
      rw [if_neg (by omega), if_pos h']
      omega
    · have := cntL_lt h h' hm
      simp only [cntL]
      split <;> split <;> omega
theorem cntH_lt {x y t : Int} (h : x ≤ t) (h' : t < y) : ∀ {zs : List Int}, t ∈ zs → cntH zs y + 1 ≤ cntH zs x
  | u :: r, hm => by
    rcases List.mem_cons.1 hm with rfl | hm
    · have := cntH_mono (show x ≤ y by omega) r
      simp only [cntH]
      rw [if_neg (by omega), if_pos h]
      omega
    · have := cntH_lt h h' hm
      simp only [cntH]
      split <;> split <;> omega
abbrev tsL (zs : List Int) : List Int := (-9223372036854775808 : Int) :: zs
abbrev tsH (zs : List Int) : List Int := (9223372036854775807 : Int) :: zs
/-- how often an end may change yet -/
def eL (zs : List Int) (m l : Int) : Int := if m = 1 then cntL (tsL zs) (l - 1) else max (cntL (tsL zs) l) (cntL (tsL zs) (l - m) + 1)
def eH (zs : List Int) (m h : Int) : Int := if m = 1 then cntH (tsH zs) (h + 1) else max (cntH (tsH zs) h) (cntH (tsH zs) (h + m) + 1)
def pot (zs : List Int) (x : Nm) : Int := if x.1 = true then 2 * zs.length + 6 else (if x.2.2.2.1 = 1 then 0 else 1) + eL zs x.2.2.2.1 x.2.1 + eH zs x.2.2.2.1 x.2.2.1
theorem eL_le (zs : List Int) (m l : Int) : 0 ≤ eL zs m l ∧ eL zs m l ≤ zs.length + 2 := by
  have h1 := cntL_le (tsL zs) (l - 1)
  have h2 := cntL_le (tsL zs) l
  have h3 := cntL_le (tsL zs) (l - m)
  simp only [List.length_cons] at h1 h2 h3
  unfold eL
  split <;> omega
theorem eH_le (zs : List Int) (m h : Int) : 0 ≤ eH zs m h ∧ eH zs m h ≤ zs.length + 2 := by
  have h1 := cntH_le (tsH zs) (h + 1)
  have h2 := cntH_le (tsH zs) h
  have h3 := cntH_le (tsH zs) (h + m)
  simp only [List.length_cons] at h1 h2 h3
  unfold eH
  split <;> omega
theorem pot_le (zs : List Int) (x : Nm) : 0 ≤ pot zs x ∧ pot zs x ≤ 2 * zs.length + 6 ∧ (x.1 = false → pot zs x ≤ 2 * zs.length + 5) := by
  have h1 := eL_le zs x.2.2.2.1 x.2.1
  have h2 := eH_le zs x.2.2.2.1 x.2.2.1
  unfold pot
  cases x.1 with
  | true => simp; omega
  | false =>
    simp only [Bool.false_eq_true, if_false]
    split <;> simp <;> omega
/-- an end that goes to the next threshold of its class -/
theorem eL_dec {zs : List Int} {m l l' t : Int} (hm : 1 ≤ m) (ht : t ∈ tsL zs) (h1 : t ≤ l') (h2 : l' - m < t) (h3 : l' ≤ l - m) : eL zs m l' + 1 ≤ eL zs m l := by
  have a := cntL_lt h2 h1 ht
  have b := cntL_mono h3 (tsL zs)
  unfold eL
  split
  · rename_i e; subst e; omega
  · omega
theorem eH_dec {zs : List Int} {m l l' t : Int} (hm : 1 ≤ m) (ht : t ∈ tsH zs) (h1 : l' ≤ t) (h2 : t < l' + m) (h3 : l + m ≤ l') : eH zs m l' + 1 ≤ eH zs m l := by
  have a := cntH_lt h1 h2 ht
  have b := cntH_mono h3 (tsH zs)
  unfold eH
  split
  · rename_i e; subst e; omega
  · omega
theorem eL_top {zs : List Int} {m l l' : Int} (hm : m ≠ 1) (h : l' ≤ l) : eL zs 1 l' ≤ eL zs m l := by
  have b := cntL_mono (show l' - 1 ≤ l by omega) (tsL zs)
  unfold eL
  rw [if_pos rfl, if_neg hm]
  omega
theorem eH_top {zs : List Int} {m l l' : Int} (hm : m ≠ 1) (h : l ≤ l') : eH zs 1 l' ≤ eH zs m l := by
  have b := cntH_mono (show l ≤ l' + 1 by omega) (tsH zs)
  unfold eH
  rw [if_pos rfl, if_neg hm]
  omega
theorem has_sub {m r u v : Int} (hu : B.hasS m r u = true) (hv : B.hasS m r v = true) : m ∣ u - v := by
  rw [B.has_iff] at hu hv
  have := Int.dvd_sub hu hv
  rwa [show u - B.val m r - (v - B.val m r) = u - v by omega] at this
theorem has_add {m r u : Int} (hu : B.hasS m r u = true) (k : Int) : B.hasS m r (u + k * m) = true := by
  rw [B.has_iff] at hu ⊢
  rw [show u + k * m - B.val m r = (u - B.val m r) + k * m by omega]
  exact Int.dvd_add hu (Int.dvd_mul_left k m)
theorem widN_spec {X Y : Nm} (nX : NF X) (nY : NF Y) (zs : List Int) : NF (widN X Y zs) ∧ Sub X (widN X Y zs) ∧ Sub Y (widN X Y zs) ∧ (widN X Y zs ≠ X → pot zs (widN X Y zs) + 1 ≤ pot zs X) := by
  unfold widN
  by_cases hx : X.1 = true
  · rw [if_pos hx]
    refine ⟨nY, bot_sub _ hx, Sub.rfl' _, fun hne => ?_⟩
    have hY : Y.1 = false := by
      cases h : Y.1 with
      | false => rfl
      | true => exact absurd ((nf_bot nY h).trans (nf_bot nX hx).symm) hne
    have := (pot_le zs Y).2.2 hY
    have e : pot zs X = 2 * zs.length + 6 := by unfold pot; rw [if_pos hx]
    omega
  rw [if_neg hx]
  have hx' : X.1 = false := by simpa using hx
  by_cases hy : Y.1 = true
  · rw [if_pos hy]
    exact ⟨nX, Sub.rfl' _, bot_sub _ hy, fun h => absurd rfl h⟩
  rw [if_neg hy]
  have hy' : Y.1 = false := by simpa using hy
  have rX := nX.raw
  have rY := nY.raw
  have zX := nX.nz hx'
  have zY := nY.nz hy'
  have w := wid_ends (zs := zs) rX.l rX.h rY.l rY.h zX.le zY.le
  generalize (wid X.2.1 X.2.2.1 Y.2.1 Y.2.2.1 zs).1 = l at w ⊢
  generalize (wid X.2.1 X.2.2.1 Y.2.1 Y.2.2.1 zs).2 = h at w ⊢
  -- what is common to both classes
  have common : ∀ {m r : Int}, U64 m → U64 r → (∀ v, In X v → B.hasS m r v = true) → (∀ v, In Y v → B.hasS m r v = true) →
      NF (makeS l h m r) ∧ Sub X (makeS l h m r) ∧ Sub Y (makeS l h m r) ∧ (makeS l h m r ≠ X → makeS l h m r = (false, (B.upS m r l).1, (B.dnS m r h).1, m, B.nr m r) ∧ (B.upS m r l).1 < (B.dnS m r h).1 ∧ (B.upS m r l).1 ≤ X.2.1 ∧ X.2.2.1 ≤ (B.dnS m r h).1 ∧
        l ≤ (B.upS m r l).1 ∧ (B.dnS m r h).1 ≤ h ∧ B.hasS m r (B.upS m r l).1 = true ∧ B.hasS m r (B.dnS m r h).1 = true) := by
    intro m r hm hr sX sY
    have n := make_nf w.Il w.Ih hm hr
    have s1 : Sub X (makeS l h m r) := fun v hv i => (make_in w.Il w.Ih hm hr hv).2 ⟨⟨by have := i.2.1.1; have := w.la; omega, by have := i.2.1.2; have := w.ha; omega⟩, sX v i⟩
    have s2 : Sub Y (makeS l h m r) := fun v hv i => (make_in w.Il w.Ih hm hr hv).2 ⟨⟨by have := i.2.1.1; have := w.lb; omega, by have := i.2.1.2; have := w.hb; omega⟩, sY v i⟩
    refine ⟨n, s1, s2, fun hne => ?_⟩
    have i1 := s1 _ rX.l zX.l
    have hz : (makeS l h m r).1 = false := i1.1
    have notc : ∀ z, I64 z → makeS l h m r ≠ constS z := by
      intro z hz' e
      apply hne
      rw [e] at s1 ⊢
      refine (nf_ext nX (.one hz') s1 fun v hv i => ?_).symm
      have e1 := (in_const hz').1 i
      have e2 := (in_const hz').1 (s1 _ rX.l zX.l)
      rw [e1, ← e2]
      exact zX.l
    obtain ⟨u1, u2, u3, u4⟩ := B.up_spec hm hr w.Il
    obtain ⟨d1, d2, d3, d4⟩ := B.dn_spec hm hr w.Ih
    obtain ⟨q1, q2⟩ := u4 _ rX.l w.la (sX _ zX.l)
    obtain ⟨q3, q4⟩ := d4 _ rX.h w.ha (sX _ zX.h)
    by_cases hb : h < l ∨ (B.upS m r l).2 = false ∨ (B.dnS m r h).2 = false ∨ (B.dnS m r h).1 < (B.upS m r l).1
    · unfold makeS at hz
      rw [if_pos hb] at hz
      simp [botS] at hz
    · by_cases he : (B.upS m r l).1 = (B.dnS m r h).1
      · exfalso
        apply notc _ u1
        unfold makeS
        rw [if_neg hb, if_pos he]
        rfl
      · refine ⟨?_, by omega, q2, q4, (u2 q1).1, (d2 q3).1, (u2 q1).2, (d2 q3).2⟩
        unfold makeS
        rw [if_neg hb, if_neg he]
  cases hc : B.leqS Y.2.2.2.1 Y.2.2.2.2 X.2.2.2.1 X.2.2.2.2 with
  | true =>
    rw [if_pos rfl, if_pos rfl]
    have hleq := (B.leq_iff rY.r rX.r).1 hc
    obtain ⟨n, s1, s2, hd⟩ := common rX.m rX.r (fun v i => i.2.2) (fun v i => by
      have := i.2.2
      rw [B.has_iff] at this ⊢
      have e : v - B.val X.2.2.2.1 X.2.2.2.2 = (v - B.val Y.2.2.2.1 Y.2.2.2.2) + (B.val Y.2.2.2.1 Y.2.2.2.2 - B.val X.2.2.2.1 X.2.2.2.2) := by omega
      rw [e]
      exact Int.dvd_add (Int.dvd_trans hleq.1 this) hleq.2)
    refine ⟨n, s1, s2, fun hne => ?_⟩
    obtain ⟨e, hlt, hl, hh, ll, hh', b1, b2⟩ := hd hne
    have hm0 : 0 ≤ X.2.2.2.1 := rX.m.1
    obtain ⟨u1, u2, u3, u4⟩ := B.up_spec rX.m rX.r w.Il
    obtain ⟨d1, d2, d3, d4⟩ := B.dn_spec rX.m rX.r w.Ih
    generalize (B.upS X.2.2.2.1 X.2.2.2.2 l) = up at *
    generalize (B.dnS X.2.2.2.1 X.2.2.2.2 h) = dn at *
    rw [e]
    have dv := has_sub b2 b1
    have hmpos : 1 ≤ X.2.2.2.1 := by
      rcases Classical.em (0 < X.2.2.2.1) with h' | h'
      · omega
      · have hz : X.2.2.2.1 = 0 := by omega
        rw [hz, Int.zero_dvd] at dv
        omega
    have L1 := has_sub zX.l.2.2 b1
    have H1 := has_sub b2 zX.h.2.2
    have gapL : up.1 ≠ X.2.1 → up.1 ≤ X.2.1 - X.2.2.2.1 := fun q => by
      have := Int.le_of_dvd (by omega) L1
      omega
    have gapH : dn.1 ≠ X.2.2.1 → X.2.2.1 + X.2.2.2.1 ≤ dn.1 := fun q => by
      have := Int.le_of_dvd (by omega) H1
      omega
    have lowL : up.1 - X.2.2.2.1 < l := by
      rcases Classical.em (up.1 - X.2.2.2.1 < l) with q | q
      · exact q
      · exfalso
        have q : l ≤ up.1 - X.2.2.2.1 := by omega
        have hI : I64 (up.1 - X.2.2.2.1) := by
          have := w.Il
          unfold I64 at *
          omega
        have := (u4 _ hI q (by have := has_add b1 (-1); rwa [show up.1 + -1 * X.2.2.2.1 = up.1 - X.2.2.2.1 by omega] at this)).2
        omega
    have lowH : h < dn.1 + X.2.2.2.1 := by
      rcases Classical.em (h < dn.1 + X.2.2.2.1) with q | q
      · exact q
      · exfalso
        have q : dn.1 + X.2.2.2.1 ≤ h := by omega
        have hI : I64 (dn.1 + X.2.2.2.1) := by
          have := w.Ih
          unfold I64 at *
          omega
        have := (d4 _ hI q (by have := has_add b2 1; rwa [show dn.1 + 1 * X.2.2.2.1 = dn.1 + X.2.2.2.1 by omega] at this)).2
        omega
    have cL : up.1 = X.2.1 ∨ eL zs X.2.2.2.1 up.1 + 1 ≤ eL zs X.2.2.2.1 X.2.1 := by
      by_cases q : up.1 = X.2.1
      · exact .inl q
      · right
        have hne' : l ≠ X.2.1 := fun e' => q (by
          have := (u4 _ rX.l w.la zX.l.2.2).2
          omega)
        rcases w.lt with e' | ⟨e', e''⟩
        · exact absurd e' hne'
        · exact eL_dec hmpos e' ll lowL (gapL q)
    have cH : dn.1 = X.2.2.1 ∨ eH zs X.2.2.2.1 dn.1 + 1 ≤ eH zs X.2.2.2.1 X.2.2.1 := by
      by_cases q : dn.1 = X.2.2.1
      · exact .inl q
      · right
        have hne' : h ≠ X.2.2.1 := fun e' => q (by
          have := (d4 _ rX.h w.ha zX.h.2.2).2
          omega)
        rcases w.ht with e' | ⟨e', e''⟩
        · exact absurd e' hne'
        · exact eH_dec hmpos e' hh' lowH (gapH q)
    have diff : ¬ (up.1 = X.2.1 ∧ dn.1 = X.2.2.1) := by
      rintro ⟨q1, q2⟩
      apply hne
      rw [e, q1, q2]
      have hr : B.nr X.2.2.2.1 X.2.2.2.2 = X.2.2.2.2 := by
        rw [q1, q2] at hlt
        have hmm : X = (false, X.2.1, X.2.2.1, X.2.2.2.1, X.2.2.2.2) := Prod.ext hx' rfl
        cases nX with
        | bot => simp [botS] at hx'
        | one hv => simp [constS] at hlt
        | many hl hh hm hr lt m0 rm i1 i2 =>
          unfold B.nr
          rw [if_neg (by omega), Int.emod_eq_of_lt hr.1 rm]
      rw [hr]
      exact (Prod.ext hx' rfl : X = (false, X.2)).symm
    unfold pot
    simp only [Bool.false_eq_true, if_false, hx']
    rcases cL with q1 | q1
    · rcases cH with q2 | q2
      · exact absurd ⟨q1, q2⟩ diff
      · rw [q1]; omega
    · rcases cH with q2 | q2
      · rw [q2]; omega
      · omega
  | false =>
    rw [if_neg (by simp), if_neg (by simp)]
    obtain ⟨n, s1, s2, hd⟩ := common U1 U0 (fun v _ => has_one v) (fun v _ => has_one v)
    refine ⟨n, s1, s2, fun hne => ?_⟩
    obtain ⟨e, hlt, hl, hh, ll, hh', b1, b2⟩ := hd hne
    have hm1 : X.2.2.2.1 ≠ 1 := by
      intro q
      have : B.leqS Y.2.2.2.1 Y.2.2.2.2 X.2.2.2.1 X.2.2.2.2 = true := by
        rw [B.leq_iff rY.r rX.r, q]
        exact ⟨Int.one_dvd _, Int.one_dvd _⟩
      rw [this] at hc
      simp at hc
    rw [e]
    have c1 := eL_top (zs := zs) hm1 hl
    have c2 := eH_top (zs := zs) hm1 hh
    unfold pot
    simp only [Bool.false_eq_true, if_false, hx', if_true, hm1]
    omega
/-- a slice of Nums that came in -/
structure Row (W : World) (a : Option Addr) (xs : List Nm) : Prop where
  big : xs.length ≤ 140737488351232
  at_ : ∀ i, (h : i < xs.length) → ∃ b off, a = some ⟨b, off, none⟩ ∧ b < W.heap.size ∧ Raw xs[i] ∧ W.cell? ⟨b, off + i * 5, none⟩ = some (.bool xs[i].1) ∧ W.cell? ⟨b, off + i * 5 + 1, none⟩ = some (.int .i64 xs[i].2.1) ∧ W.cell? ⟨b, off + i * 5 + 2, none⟩ = some (.int .i64 xs[i].2.2.1) ∧
    W.cell? ⟨b, off + i * 5 + 3, none⟩ = some (.int .u64 xs[i].2.2.2.1) ∧ W.cell? ⟨b, off + i * 5 + 4, none⟩ = some (.int .u64 xs[i].2.2.2.2)
theorem Row.below {W W' : World} {a : Option Addr} {xs : List Nm} (h : Row W a xs) (hb : Below W.heap.size W W') : Row W' a xs where
  big := h.big
  at_ i hi := by
    obtain ⟨b, off, e, hl, hr, c0, c1, c2, c3, c4⟩ := h.at_ i hi
    have k : ∀ o, W'.cell? ⟨b, o, none⟩ = W.cell? ⟨b, o, none⟩ := fun o => hb.cell (by simpa using hl)
    exact ⟨b, off, e, Nat.lt_of_lt_of_le hl hb.size, hr, (k _).trans c0, (k _).trans c1, (k _).trans c2, (k _).trans c3, (k _).trans c4⟩
theorem allocR (w : World) (o : Obj) : (w.alloc o).heap[w.heap.size]? = some o := by
  have e : (w.alloc o).heap = w.heap.push o := rfl
  rw [e, Array.getElem?_push]; simp
theorem allocL (w : World) (o : Obj) : w.heap.size < (w.alloc o).heap.size := by
  have e : (w.alloc o).heap = w.heap.push o := rfl
  rw [e]; simp
abbrev nvx (x : Nm) : Value := .agg #[.bool x.1, .int .i64 x.2.1, .int .i64 x.2.2.1, .int .u64 x.2.2.2.1, .int .u64 x.2.2.2.2]
abbrev ncs (x : Nm) : Array Value := #[.bool x.1, .int .i64 x.2.1, .int .i64 x.2.2.1, .int .u64 x.2.2.2.1, .int .u64 x.2.2.2.2]
theorem cells5 {w : World} {b : Nat} {x : Nm} (h : w.heap[b]? = some (.cells (ncs x) 28 (0, 0))) : w.cell? ⟨b, 0, none⟩ = some (.bool x.1) ∧ w.cell? ⟨b, 1, none⟩ = some (.int .i64 x.2.1) ∧ w.cell? ⟨b, 2, none⟩ = some (.int .i64 x.2.2.1) ∧ w.cell? ⟨b, 3, none⟩ = some (.int .u64 x.2.2.2.1) ∧ w.cell? ⟨b, 4, none⟩ = some (.int .u64 x.2.2.2.2) ∧
    w.frozen? ⟨b, 0, none⟩ = false ∧ w.frozen? ⟨b, 1, none⟩ = false ∧ w.frozen? ⟨b, 2, none⟩ = false ∧ w.frozen? ⟨b, 3, none⟩ = false ∧ w.frozen? ⟨b, 4, none⟩ = false := by
  simp [World.cell?, World.frozen?, h]
section
variable {W : World} (hG : GOK G W)
include hG
theorem k_works : Calls P 13 #[] W fun e w' => e = .returned (.bool true) ∧ Below W.heap.size W w' := c_works hG
theorem k_norm {x : Nm} (h : Raw x) : Calls P 14 #[nvx x] W fun e w' => e = .returned (nvx (normS x)) ∧ Below W.heap.size W w' := c_norm hG h
theorem k_normal {x : Nm} (h : NF x) : Calls P 15 #[nvx x] W fun e w' => e = .returned (.bool true) ∧ Below W.heap.size W w' := c_normal hG h
theorem k_leq {x y : Nm} (h : Raw x) (h' : Raw y) (hs : Sub x y) : Calls P 33 #[nvx x, nvx y] W fun e w' => e = .returned (.bool true) ∧ Below W.heap.size W w' := by
  obtain ⟨a0, a1, a2, a3, a4⟩ := x
  obtain ⟨b0, b1, b2, b3, b4⟩ := y
  have := TabOK_calls C law_normal.t (F := num_Leq.F) rfl Tryz.func33 (by kernel_rfl) (vs := [nvx (a0, a1, a2, a3, a4), nvx (b0, b1, b2, b3, b4)]) (v := .bool (num_Leq a0 a1 a2 a3 a4 b0 b1 b2 b3 b4)) hG (by
    show some (num_Leq.ok a0 a1 a2 a3 a4 b0 b1 b2 b3 b4, _) = _
    rw [num_Leq_ok h h'])
  rw [num_Leq_s h h', (leq_iff h h').2 hs] at this
  exact this
theorem k_widen {a : Option Addr} {cap : Nat} {zs : List Int} (hz : Thr W a zs) {x y : Nm} (hx : NF x) (hy : Raw y) :
    Calls P 42 #[nvx x, nvx y, .slice a zs.length cap] W fun e w' => e = .returned (nvx (widN x (normS y) zs)) ∧ Below W.heap.size W w' := by
  have := nwid_walk (cap := cap) hG hz hx.raw hy
  rw [norm_fix hx] at this
  exact this
end
theorem norm_sub' {x : Nm} (h : Raw x) {z : Nm} (hs : Sub (normS x) z) : Sub x z := fun v hv i => hs v hv ((norm_in h hv).2 i)
/-- the variable now -/
structure NB (W : World) (N : Nat) (w : World) (X : Nm) : Prop where
  bel : Below W.heap.size W w
  lt : N < w.heap.size
  le : W.heap.size ≤ N
  row : w.heap[N]? = some (.cells (ncs X) 28 (0, 0))
structure T3 (W : World) (N B E : Nat) (w : World) (X Y Z : Nm) : Prop where
  bel : Below W.heap.size W w
  lN : N < w.heap.size
  lB : B < w.heap.size
  lE : E < w.heap.size
  le : W.heap.size ≤ N
  rN : w.heap[N]? = some (.cells (ncs X) 28 (0, 0))
  rB : w.heap[B]? = some (.cells (ncs Y) 28 (0, 0))
  rE : w.heap[E]? = some (.cells (ncs Z) 28 (0, 0))
theorem NB.store {W w : World} {N B E : Nat} {X Y Z : Nm} (h : T3 W N B E w X Y Z) : NB W N (((((w.setCell ⟨N, 0, none⟩ (.bool Z.1)).setCell ⟨N, 1, none⟩ (.int .i64 Z.2.1)).setCell ⟨N, 2, none⟩ (.int .i64 Z.2.2.1)).setCell ⟨N, 3, none⟩ (.int .u64 Z.2.2.2.1)).setCell ⟨N, 4, none⟩ (.int .u64 Z.2.2.2.2)) Z := by
  refine ⟨?_, by simp only [size_set]; exact h.lN, h.le, ?_⟩
  · exact ((((h.bel.trans (set_bel _ _ h.le)).trans (set_bel _ _ h.le)).trans (set_bel _ _ h.le)).trans (set_bel _ _ h.le)).trans (set_bel _ _ h.le)
  · exact (heap_set0 (heap_set0 (heap_set0 (heap_set0 (heap_set0 h.rN))))).trans (by simp)
theorem T3.below {W w w' : World} {N B E : Nat} {X Y Z : Nm} (h : T3 W N B E w X Y Z) (hb : Below w.heap.size w w') : T3 W N B E w' X Y Z where
  bel := h.bel.trans (hb.mono h.bel.size)
  lN := Nat.lt_of_lt_of_le h.lN hb.size
  lB := Nat.lt_of_lt_of_le h.lB hb.size
  lE := Nat.lt_of_lt_of_le h.lE hb.size
  le := h.le
  rN := (hb.block _ h.lN).trans h.rN
  rB := (hb.block _ h.lB).trans h.rB
  rE := (hb.block _ h.lE).trans h.rE
theorem T3.start {W w w3 : World} {N : Nat} {X Y Z : Nm} (h : NB W N w X) (hb : Below (w.alloc (.cells (ncs Y) 28)).heap.size (w.alloc (.cells (ncs Y) 28)) w3) : T3 W N w.heap.size w3.heap.size (w3.alloc (.cells (ncs Z) 28)) X Y Z := by
  have b1 : Below w.heap.size w (w.alloc (.cells (ncs Y) 28)) := (Below.refl _ _).alloc (Nat.le_refl _) _
  have l1 := allocL w (.cells (ncs Y) 28)
  have b2 : Below w3.heap.size w3 (w3.alloc (.cells (ncs Z) 28)) := (Below.refl _ _).alloc (Nat.le_refl _) _
  have l2 := allocL w3 (.cells (ncs Z) 28)
  have s := hb.size
  have hN := h.lt
  have hle := h.bel.size
  refine ⟨(h.bel.trans (b1.mono hle)).trans ((hb.mono (by omega)).trans (b2.mono (by omega))), by omega, by omega, l2, h.le, ?_, ?_, allocR _ _⟩
  · exact (b2.block _ (by omega)).trans ((hb.block _ (by omega)).trans ((b1.block _ hN).trans h.row))
  · exact (b2.block _ (by omega)).trans ((hb.block _ (by omega)).trans (allocR _ _))
set_option maxRecDepth 100000 in
set_option maxHeartbeats 4000000 in
theorem rows_walk {W : World} (hG : GOK G W) {x : Nm} (hx : Raw x) {ra ta : Option Addr} {rc tc : Nat} {xs : List Nm} {zs : List Int} (hr : Row W ra xs) (hz : Thr W ta zs) :
    Calls P 7 #[nvx x, .slice ra xs.length rc, .slice ta zs.length tc] W fun e w' => e = .returned (.bool true) ∧ Below W.heap.size W w' := by
  have HB := Lib.hid ((Below.refl W.heap.size W).alloc (Nat.le_refl _) (.cells (ncs x) 28))
  have HA := Lib.hid (allocR W (.cells (ncs x) 28))
  have HL := Lib.hid (allocL W (.cells (ncs x) 28))
  have HG := Lib.hid hG
  have HZ := Lib.hid hz
  have HR := Lib.hid hr
  clear hG hz hr
  go_enter Tryz.func7, Tryz.ntmps7
  go_wp2_with (go_at_call 13; refine (k_works (gok_b HG.out (Nat.le_refl _) HB.out)).mono ?_; rintro e W1 ⟨rfl, hb⟩; refine Hid.out ?_)
  have hA1 := (hb.block _ HL.out).trans HA.out
  have HA1 := Lib.hid hA1
  have HL1 := Lib.hid (Nat.lt_of_lt_of_le HL.out hb.size)
  have HB1 := Lib.hid (HB.out.trans (hb.mono (Nat.le_of_lt HL.out)))
  clear hb HB HA HL
  obtain ⟨c0, c1, c2, c3, c4, f0, f1, f2, f3, f4⟩ := cells5 hA1
  clear hA1
  refine Lib.hid ?_
  go_wp2_with (go_at_call 14; refine (k_norm (gok_b HG.out (Nat.le_refl _) HB1.out) hx).mono ?_; rintro e W2 ⟨rfl, hb⟩; refine Hid.out ?_)
  have HB2 := Lib.hid (HB1.out.trans (hb.mono HB1.out.size))
  clear hb HA1 HL1 HB1 c0 c1 c2 c3 c4 f0 f1 f2 f3 f4
  have hn := Lib.hid (norm_nf hx)
  generalize normS x = X0 at *
  refine Lib.hid ?_
  go_wp2
  go_loopw [8, 18] (fun c i wr => ∃ k : Nat, k ≤ xs.length ∧ i = .int .i64 k ∧ ∃ n : Int, c = .int .i64 n ∧ 0 ≤ n ∧ ∃ X, NF X ∧ n + pot zs X ≤ 2 * zs.length + 6 ∧ NB W W2.heap.size wr X) (fun _ i _ => xs.length - (intOf i).toNat)
  case atStart => exact ⟨0, Nat.zero_le _, rfl, 0, rfl, Int.le_refl _, X0, hn.out, by have := (pot_le zs X0).2.1; omega, ⟨HB2.out.alloc HB2.out.size _, allocL _ _, HB2.out.size, allocR _ _⟩⟩
  case round =>
    obtain ⟨k, hk, rfl, n, rfl, hn0, X, nX, hpot, hNB⟩ := hrel
    have HN := Lib.hid hNB
    have NX := Lib.hid nX
    have HP := Lib.hid hpot
    have hbig := HR.out.big
    have hbig2 := HZ.out.big
    clear hNB nX hpot hn
    by_cases hlt : k < xs.length
    · obtain ⟨b, off, rfl, hbl, hraw, x0, x1, x2, x3, x4⟩ := (HR.out.below HN.out.bel).at_ k hlt
      obtain ⟨c0, c1, c2, c3, c4, f0, f1, f2, f3, f4⟩ := cells5 HN.out.row
      have HRaw := Lib.hid hraw
      clear hraw
      have hlt2 := HN.out.lt
      have HBb := Lib.hid (HN.out.bel.alloc HN.out.bel.size (.cells (ncs xs[k]) 28))
      go_wp2_with (go_at_call 42; refine (k_widen (cap := tc) (gok_b HG.out (Nat.le_refl _) HBb.out) (HZ.out.below HBb.out) NX.out HRaw.out).mono ?_; rintro e W3 ⟨rfl, hb⟩; refine Hid.out ?_)
      have HS := Lib.hid (widN_spec NX.out (norm_nf HRaw.out) zs)
      have HT := Lib.hid (T3.start (Z := widN X (normS xs[k]) zs) HN.out hb)
      clear hb HBb c0 c1 c2 c3 c4 f0 f1 f2 f3 f4 x0 x1 x2 x3 x4 hlt2
      generalize widN X (normS xs[k]) zs = Z at *
      refine Lib.hid ?_
      go_wp2_with (go_at_call 15; refine (k_normal (gok_b HG.out (Nat.le_refl _) HT.out.bel) HS.out.1).mono ?_; rintro e W4 ⟨rfl, hb⟩; refine Hid.out ?_)
      have HT4 := Lib.hid (HT.out.below hb)
      clear hb HT
      obtain ⟨a0, a1, a2, a3, a4, f0, f1, f2, f3, f4⟩ := cells5 HT4.out.rN
      obtain ⟨b0, b1, b2, b3, b4, g0, g1, g2, g3, g4⟩ := cells5 HT4.out.rB
      obtain ⟨e0, e1, e2, e3, e4, h0, h1, h2, h3, h4⟩ := cells5 HT4.out.rE
      clear g0 g1 g2 g3 g4 h0 h1 h2 h3 h4
      refine Lib.hid ?_
      go_wp2_with (go_at_call 33; refine (k_leq (gok_b HG.out (Nat.le_refl _) HT4.out.bel) NX.out.raw HS.out.1.raw HS.out.2.1).mono ?_; rintro e W5 ⟨rfl, hb⟩; refine Hid.out ?_)
      have HT5 := Lib.hid (HT4.out.below hb)
      clear hb HT4 a0 a1 a2 a3 a4 f0 f1 f2 f3 f4 b0 b1 b2 b3 b4 e0 e1 e2 e3 e4
      obtain ⟨a0, a1, a2, a3, a4, f0, f1, f2, f3, f4⟩ := cells5 HT5.out.rN
      obtain ⟨b0, b1, b2, b3, b4, g0, g1, g2, g3, g4⟩ := cells5 HT5.out.rB
      obtain ⟨e0, e1, e2, e3, e4, h0, h1, h2, h3, h4⟩ := cells5 HT5.out.rE
      clear g0 g1 g2 g3 g4 h0 h1 h2 h3 h4
      refine Lib.hid ?_
      go_wp2_with (go_at_call 33; refine (k_leq (gok_b HG.out (Nat.le_refl _) HT5.out.bel) HRaw.out HS.out.1.raw (norm_sub' HRaw.out HS.out.2.2.1)).mono ?_; rintro e W6 ⟨rfl, hb⟩; refine Hid.out ?_)
      have HT6 := Lib.hid (HT5.out.below hb)
      clear hb HT5 a0 a1 a2 a3 a4 f0 f1 f2 f3 f4 b0 b1 b2 b3 b4 e0 e1 e2 e3 e4
      obtain ⟨a0, a1, a2, a3, a4, f0, f1, f2, f3, f4⟩ := cells5 HT6.out.rN
      obtain ⟨e0, e1, e2, e3, e4, h0, h1, h2, h3, h4⟩ := cells5 HT6.out.rE
      clear h0 h1 h2 h3 h4
      refine Lib.hid ?_
      go_wp2
      · rename_i q0 q1 q2 q3 q4
        have eZ : Z = X := Prod.ext q0 (Prod.ext q1 (Prod.ext q2 (Prod.ext q3 q4)))
        subst eZ
        exact ⟨⟨k + 1, by omega, by go_num, n, rfl, hn0, Z, HS.out.1, HP.out, NB.store HT6.out⟩, by simp [intOf]; omega⟩
      · rename_i q0 q1 q2 q3 q4
        have key := NB.store HT6.out
        rw [q0, q1, q2, q3] at key
        have hd := HS.out.2.2.2 (fun e => q4 (by rw [e]))
        have hp0 := (pot_le zs Z).1
        have hp := HP.out
        have hw : wrap64 (n + 1) = n + 1 := by simp [wrap64]; omega
        refine ⟨⟨k + 1, by omega, by go_num, _, rfl, by omega, Z, HS.out.1, by omega, key⟩, by simp [intOf]; omega⟩
      · rename_i q0 q1 q2 q3
        have key := NB.store HT6.out
        rw [q0, q1, q2] at key
        have hd := HS.out.2.2.2 (fun e => q3 (by rw [e]))
        have hp0 := (pot_le zs Z).1
        have hp := HP.out
        have hw : wrap64 (n + 1) = n + 1 := by simp [wrap64]; omega
        refine ⟨⟨k + 1, by omega, by go_num, _, rfl, by omega, Z, HS.out.1, by omega, key⟩, by simp [intOf]; omega⟩
      · rename_i q0 q1 q2
        have key := NB.store HT6.out
        rw [q0, q1] at key
        have hd := HS.out.2.2.2 (fun e => q2 (by rw [e]))
        have hp0 := (pot_le zs Z).1
        have hp := HP.out
        have hw : wrap64 (n + 1) = n + 1 := by simp [wrap64]; omega
        refine ⟨⟨k + 1, by omega, by go_num, _, rfl, by omega, Z, HS.out.1, by omega, key⟩, by simp [intOf]; omega⟩
      · rename_i q0 q1
        have key := NB.store HT6.out
        rw [q0] at key
        have hd := HS.out.2.2.2 (fun e => q1 (by rw [e]))
        have hp0 := (pot_le zs Z).1
        have hp := HP.out
        have hw : wrap64 (n + 1) = n + 1 := by simp [wrap64]; omega
        refine ⟨⟨k + 1, by omega, by go_num, _, rfl, by omega, Z, HS.out.1, by omega, key⟩, by simp [intOf]; omega⟩
      · rename_i q0
        have key := NB.store HT6.out
        have hd := HS.out.2.2.2 (fun e => q0 (by rw [e]))
        have hp0 := (pot_le zs Z).1
        have hp := HP.out
        have hw : wrap64 (n + 1) = n + 1 := by simp [wrap64]; omega
        refine ⟨⟨k + 1, by omega, by go_num, _, rfl, by omega, Z, HS.out.1, by omega, key⟩, by simp [intOf]; omega⟩
    · have hp0 := (pot_le zs X).1
      have hp := HP.out
      go_wp2
      rw [decide_eq_true (by omega)]
      exact ⟨rfl, .bool true, by simp [results, Tryz.results7, go_sem], rfl, HN.out.bel⟩
end Go.Proofs.YtonpbbhlmapbdaaGreatDoor.V
