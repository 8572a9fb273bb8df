/- Parts: V5, V6, V7. Conditions: none. -/
import Derived.Test.YtonpbbhlmapbdaaGreatDoorV4
import Derived.Test.YtonpbbhlmapbdaaGreatDoorKC
import Derived.Test.YtonpbbhlmapbdaaGreatDoorH1
set_option linter.unusedVariables false
set_option linter.unusedSimpArgs false
namespace Go.Proofs.YtonpbbhlmapbdaaGreatDoor.V
open Go Go.Wk Go.RowKit
theorem lo_bd (b : Int) : ∀ (zs : List Int) (x : Int), x ≤ loS b zs x ∧ (x ≤ b → loS b zs x ≤ b) ∧ (loS b zs x = x ∨ loS b zs x ∈ zs)
  | [], x => ⟨Int.le_refl _, id, .inl rfl⟩
  | t :: r, x => by
    obtain ⟨h1, h2, h3⟩ := lo_bd b r (if t ≤ b then (if x < t then t else x) else x)
    have e : loS b (t :: r) x = loS b r (if t ≤ b then (if x < t then t else x) else x) := rfl
    rw [e]
    refine ⟨Int.le_trans ?_ h1, fun h => h2 ?_, ?_⟩
    · split
      · split <;> omega
      · omega
    · split
      · split <;> omega
      · omega
    · rcases h3 with h3 | h3
      · rw [h3]
        split
        · split
          · exact .inr (by simp)
          · exact .inl rfl
        · exact .inl rfl
      · exact .inr (List.mem_cons_of_mem _ h3)
theorem hi_bd (b : Int) : ∀ (zs : List Int) (x : Int), hiS b zs x ≤ x ∧ (b ≤ x → b ≤ hiS b zs x) ∧ (hiS b zs x = x ∨ hiS b zs x ∈ zs)
  | [], x => ⟨Int.le_refl _, id, .inl rfl⟩
  | t :: r, x => by
    obtain ⟨h1, h2, h3⟩ := hi_bd b r (if t ≥ b then (if t < x then t else x) else x)
    have e : hiS b (t :: r) x = hiS b r (if t ≥ b then (if t < x then t else x) else x) := rfl
    rw [e]
    refine ⟨Int.le_trans h1 ?_, fun h => h2 ?_, ?_⟩
    · split
      · split <;> omega
      · omega
    · split
      · split <;> omega
      · omega
    · rcases h3 with h3 | h3
      · rw [h3]
        split
        · split
          · exact .inr (by simp)
          · exact .inl rfl
        · exact .inl rfl
      · exact .inr (List.mem_cons_of_mem _ h3)
/-- the ends of a widening -/
structure WE (a0 a1 b0 b1 : Int) (zs : List Int) (l h : Int) : Prop where
  Il : I64 l
  Ih : I64 h
  la : l ≤ a0
  lb : l ≤ b0
  ha : a1 ≤ h
  hb : b1 ≤ h
  lt : l = a0 ∨ (l ∈ (-9223372036854775808 : Int) :: zs ∧ b0 < a0)
  ht : h = a1 ∨ (h ∈ (9223372036854775807 : Int) :: zs ∧ a1 < b1)
theorem wid_ends {a0 a1 b0 b1 : Int} {zs : List Int} (i0 : I64 a0) (i1 : I64 a1) (j0 : I64 b0) (j1 : I64 b1) (h : a0 ≤ a1) (h' : b0 ≤ b1) : WE a0 a1 b0 b1 zs (wid a0 a1 b0 b1 zs).1 (wid a0 a1 b0 b1 zs).2 := by
  unfold wid
  rw [widenI_main h h']
  obtain ⟨l1, l2, l3⟩ := lo_bd b0 zs (-9223372036854775808)
  obtain ⟨h1, h2, h3⟩ := hi_bd b1 zs 9223372036854775807
  unfold I64 at *
  have l2 := l2 (by omega)
  have h2 := h2 (by omega)
  refine ⟨?_, ?_, ?_, ?_, ?_, ?_, ?_, ?_⟩
  · show I64 (if b0 < a0 then _ else _)
    unfold I64
    split <;> omega
  · show I64 (if b1 > a1 then _ else _)
    unfold I64
    split <;> omega
  · show (if b0 < a0 then _ else _) ≤ a0
    split <;> omega
  · show (if b0 < a0 then _ else _) ≤ b0
    split <;> omega
  · show a1 ≤ (if b1 > a1 then _ else _)
    split <;> omega
  · show b1 ≤ (if b1 > a1 then _ else _)
    split <;> omega
  · show (if b0 < a0 then _ else _) = a0 ∨ (if b0 < a0 then _ else _) ∈ _ ∧ _
    split
    · rename_i q
      right
      refine ⟨?_, q⟩
      rcases l3 with e | e
      · rw [e]; simp
      · exact List.mem_cons_of_mem _ e
    · exact .inl rfl
  · show (if b1 > a1 then _ else _) = a1 ∨ (if b1 > a1 then _ else _) ∈ _ ∧ _
    split
    · rename_i q
      right
      refine ⟨?_, by omega⟩
      rcases h3 with e | e
      · rw [e]; simp
      · exact List.mem_cons_of_mem _ e
    · exact .inl rfl
/-- Widen of two normal forms -/
def widN (X Y : Nm) (zs : List Int) : Nm := if X.1 = true then Y else if Y.1 = true then X else
  makeS (wid X.2.1 X.2.2.1 Y.2.1 Y.2.2.1 zs).1 (wid X.2.1 X.2.2.1 Y.2.1 Y.2.2.1 zs).2 (if B.leqS Y.2.2.2.1 Y.2.2.2.2 X.2.2.2.1 X.2.2.2.2 = true then X.2.2.2.1 else 1) (if B.leqS Y.2.2.2.1 Y.2.2.2.2 X.2.2.2.1 X.2.2.2.2 = true then X.2.2.2.2 else 0)
theorem nwid_v {γ : Type} (n : γ) (k : Nm → γ) {G0 : Glob} {thr : Value} {zs : List Int} {a0 b0 : Bool} {a1 a2 a3 a4 b1 b2 b3 b4 : Int} (h : Raw (a0, a1, a2, a3, a4)) (h' : Raw (b0, b1, b2, b3, b4)) :
    nwid.c n k G0 thr zs a0 a1 a2 a3 a4 b0 b1 b2 b3 b4 = k (widN (normS (a0, a1, a2, a3, a4)) (normS (b0, b1, b2, b3, b4)) zs) := by
  unfold nwid.c nwid.c0
  simp only [num_Norm_s h, num_Norm_s h', eqV_self]
  have nX := norm_nf h
  have nY := norm_nf h'
  generalize normS (a0, a1, a2, a3, a4) = X at *
  generalize normS (b0, b1, b2, b3, b4) = Y at *
  unfold widN
  by_cases hx : X.1 = true
  · rw [if_pos hx, hx]; rfl
  have hx' : X.1 = false := by simpa using hx
  rw [if_neg hx, hx']
  by_cases hy : Y.1 = true
  · rw [if_pos hy, hy]
    exact congrArg k (show (false, X.2) = X from Prod.ext hx'.symm rfl)
  have hy' : Y.1 = false := by simpa using hy
  rw [if_neg hy, hy']
  have rX := nX.raw
  have rY := nY.raw
  have zX := nX.nz hx'
  have zY := nY.nz hy'
  have w := wid_ends (zs := zs) rX.l rX.h rY.l rY.h zX.le zY.le
  simp only [B.leq_ok rY.m rY.r rX.m rX.r, B.leq_s rY.m rY.r rX.m rX.r, cond_true, cond_false]
  cases hc : B.leqS Y.2.2.2.1 Y.2.2.2.2 X.2.2.2.1 X.2.2.2.2 with
  | true =>
    simp only [Bool.not_true, cond_false, num_Make_s w.Il w.Ih rX.m rX.r]
    rfl
  | false =>
    simp only [Bool.not_false, cond_true, num_Make_s w.Il w.Ih U1 U0]
    rfl
theorem nwid_walk {W : World} (hG : GOK G W) {a : Option Addr} {cap : Nat} {zs : List Int} (hz : Thr W a zs) {x y : Nm} (hx : Raw x) (hy : Raw y) :
    Calls P 42 #[.agg #[.bool x.1, .int .i64 x.2.1, .int .i64 x.2.2.1, .int .u64 x.2.2.2.1, .int .u64 x.2.2.2.2], .agg #[.bool y.1, .int .i64 y.2.1, .int .i64 y.2.2.1, .int .u64 y.2.2.2.1, .int .u64 y.2.2.2.2], .slice a zs.length cap] W
      fun e w' => e = .returned (.agg #[.bool (widN (normS x) (normS y) zs).1, .int .i64 (widN (normS x) (normS y) zs).2.1, .int .i64 (widN (normS x) (normS y) zs).2.2.1, .int .u64 (widN (normS x) (normS y) zs).2.2.2.1, .int .u64 (widN (normS x) (normS y) zs).2.2.2.2]) ∧ Below W.heap.size W w' := by
  obtain ⟨G', hK, hG'⟩ := kept_of hG hz
  obtain ⟨a0, a1, a2, a3, a4⟩ := x
  obtain ⟨b0, b1, b2, b3, b4⟩ := y
  refine runF_calls' hK.cx.mixed hK.cx.names (L_wid.t (cap := cap) hK) (H := { merge := true, glue := true }) (d := 60) (fun c _ => LoopsOK_nil c) Tryz.func42 hG' (gok_lt hK.cx hG') (vs := [.agg #[.bool a0, .int .i64 a1, .int .i64 a2, .int .u64 a3, .int .u64 a4], .agg #[.bool b0, .int .i64 b1, .int .i64 b2, .int .u64 b3, .int .u64 b4], .slice a zs.length cap]) ?_
  rw [nwid.r, nwid_v _ _ hx hy]
/-- a slice of Nums that came in -/
structure Row (W : World) (a : Option Addr) (xs : List Nm) : Prop where
  big : xs.length ≤ 140737488351232
  at_ : ∀ i, (h : i < xs.length) → ∃ b off, a = some ⟨b, off, none⟩ ∧ b < W.heap.size ∧ Raw xs[i] ∧ W.cell? ⟨b, off + i * 5, none⟩ = some (.bool xs[i].1) ∧ W.cell? ⟨b, off + i * 5 + 1, none⟩ = some (.int .i64 xs[i].2.1) ∧ W.cell? ⟨b, off + i * 5 + 2, none⟩ = some (.int .i64 xs[i].2.2.1) ∧
    W.cell? ⟨b, off + i * 5 + 3, none⟩ = some (.int .u64 xs[i].2.2.2.1) ∧ W.cell? ⟨b, off + i * 5 + 4, none⟩ = some (.int .u64 xs[i].2.2.2.2)
theorem Row.below {W W' : World} {a : Option Addr} {xs : List Nm} (h : Row W a xs) (hb : Below W.heap.size W W') : Row W' a xs where
  big := h.big
  at_ i hi := by
    obtain ⟨b, off, e, hl, hr, c0, c1, c2, c3, c4⟩ := h.at_ i hi
    have k : ∀ o, W'.cell? ⟨b, o, none⟩ = W.cell? ⟨b, o, none⟩ := fun o => hb.cell (by simpa using hl)
    exact ⟨b, off, e, Nat.lt_of_lt_of_le hl hb.size, hr, (k _).trans c0, (k _).trans c1, (k _).trans c2, (k _).trans c3, (k _).trans c4⟩
theorem allocR (w : World) (o : Obj) : (w.alloc o).heap[w.heap.size]? = some o := by
  have e : (w.alloc o).heap = w.heap.push o := rfl
  rw [e, Array.getElem?_push]; simp
theorem allocL (w : World) (o : Obj) : w.heap.size < (w.alloc o).heap.size := by
  have e : (w.alloc o).heap = w.heap.push o := rfl
  rw [e]; simp
abbrev nvx (x : Nm) : Value := .agg #[.bool x.1, .int .i64 x.2.1, .int .i64 x.2.2.1, .int .u64 x.2.2.2.1, .int .u64 x.2.2.2.2]
abbrev ncs (x : Nm) : Array Value := #[.bool x.1, .int .i64 x.2.1, .int .i64 x.2.2.1, .int .u64 x.2.2.2.1, .int .u64 x.2.2.2.2]
theorem cells5 {w : World} {b : Nat} {x : Nm} (h : w.heap[b]? = some (.cells (ncs x) 28 (0, 0))) : w.cell? ⟨b, 0, none⟩ = some (.bool x.1) ∧ w.cell? ⟨b, 1, none⟩ = some (.int .i64 x.2.1) ∧ w.cell? ⟨b, 2, none⟩ = some (.int .i64 x.2.2.1) ∧ w.cell? ⟨b, 3, none⟩ = some (.int .u64 x.2.2.2.1) ∧ w.cell? ⟨b, 4, none⟩ = some (.int .u64 x.2.2.2.2) ∧
    w.frozen? ⟨b, 0, none⟩ = false ∧ w.frozen? ⟨b, 1, none⟩ = false ∧ w.frozen? ⟨b, 2, none⟩ = false ∧ w.frozen? ⟨b, 3, none⟩ = false ∧ w.frozen? ⟨b, 4, none⟩ = false := by
  simp [World.cell?, World.frozen?, h]
section
variable {W : World} (hG : GOK G W)
include hG
theorem k_works : Calls P 13 #[] W fun e w' => e = .returned (.bool true) ∧ Below W.heap.size W w' := c_works hG
end
end Go.Proofs.YtonpbbhlmapbdaaGreatDoor.V
