/- Thresholds: which one is reached, and how many are left. Conditions: none. -/
import Derived.Test.YtbbplkdjcgdaaaaDoorY3
set_option linter.unusedVariables false
set_option linter.unusedSimpArgs false
namespace Go.Proofs.YtbbplkdjcgdaaaaDoor.V
open Go Go.Wk Go.RowKit
def wid (a0 a1 b0 b1 : Int) (zs : List Int) : Int × Int := widenI (a0, a1) (b0, b1) zs
theorem lo_bd (b : Int) : ∀ (zs : List Int) (x : Int), x ≤ loS b zs x ∧ (x ≤ b → loS b zs x ≤ b) ∧ (loS b zs x = x ∨ loS b zs x ∈ zs)
  | [], x => ⟨Int.le_refl _, id, .inl rfl⟩
  | t :: r, x => by
    obtain ⟨h1, h2, h3⟩ := lo_bd b r (if t ≤ b then (if x < t then t else x) else x)
    have e : loS b (t :: r) x = loS b r (if t ≤ b then (if x < t then t else x) else x) := rfl
    rw [e]
    refine ⟨Int.le_trans ?_ h1, fun h => h2 ?_, ?_⟩
    · split
      · split <;> omega
      · omega
    · split
      · split <;> omega
      · omega
    · rcases h3 with h3 | h3
      · rw [h3]
        split
        · split
          · exact .inr (by simp)
          · exact .inl rfl
        · exact .inl rfl
      · exact .inr (List.mem_cons_of_mem _ h3)
theorem hi_bd (b : Int) : ∀ (zs : List Int) (x : Int), hiS b zs x ≤ x ∧ (b ≤ x → b ≤ hiS b zs x) ∧ (hiS b zs x = x ∨ hiS b zs x ∈ zs)
  | [], x => ⟨Int.le_refl _, id, .inl rfl⟩
  | t :: r, x => by
    obtain ⟨h1, h2, h3⟩ := hi_bd b r (if t ≥ b then (if t < x then t else x) else x)
    have e : hiS b (t :: r) x = hiS b r (if t ≥ b then (if t < x then t else x) else x) := rfl
    rw [e]
    refine ⟨Int.le_trans h1 ?_, fun h => h2 ?_, ?_⟩
    · split
      · split <;> omega
      · omega
    · split
      · split <;> omega
      · omega
    · rcases h3 with h3 | h3
      · rw [h3]
        split
        · split
          · exact .inr (by simp)
          · exact .inl rfl
        · exact .inl rfl
      · exact .inr (List.mem_cons_of_mem _ h3)
/-- the ends of a widening -/
structure WE (a0 a1 b0 b1 : Int) (zs : List Int) (l h : Int) : Prop where
  Il : I64 l
  Ih : I64 h
  la : l ≤ a0
  lb : l ≤ b0
  ha : a1 ≤ h
  hb : b1 ≤ h
  lt : l = a0 ∨ (l ∈ (-9223372036854775808 : Int) :: zs ∧ b0 < a0)
  ht : h = a1 ∨ (h ∈ (9223372036854775807 : Int) :: zs ∧ a1 < b1)
theorem wid_ends {a0 a1 b0 b1 : Int} {zs : List Int} (i0 : I64 a0) (i1 : I64 a1) (j0 : I64 b0) (j1 : I64 b1) (h : a0 ≤ a1) (h' : b0 ≤ b1) : WE a0 a1 b0 b1 zs (wid a0 a1 b0 b1 zs).1 (wid a0 a1 b0 b1 zs).2 := by
  unfold wid
  rw [widenI_main h h']
  obtain ⟨l1, l2, l3⟩ := lo_bd b0 zs (-9223372036854775808)
  obtain ⟨h1, h2, h3⟩ := hi_bd b1 zs 9223372036854775807
  unfold I64 at *
  have l2 := l2 (by omega)
  have h2 := h2 (by omega)
  refine ⟨?_, ?_, ?_, ?_, ?_, ?_, ?_, ?_⟩
  · show I64 (if b0 < a0 then _ else _)
    unfold I64
    split <;> omega
  · show I64 (if b1 > a1 then _ else _)
    unfold I64
    split <;> omega
  · show (if b0 < a0 then _ else _) ≤ a0
    split <;> omega
  · show (if b0 < a0 then _ else _) ≤ b0
    split <;> omega
  · show a1 ≤ (if b1 > a1 then _ else _)
    split <;> omega
  · show b1 ≤ (if b1 > a1 then _ else _)
    split <;> omega
  · show (if b0 < a0 then _ else _) = a0 ∨ (if b0 < a0 then _ else _) ∈ _ ∧ _
    split
    · rename_i q
      right
      refine ⟨?_, q⟩
      rcases l3 with e | e
      · rw [e]; simp
      · exact List.mem_cons_of_mem _ e
    · exact .inl rfl
  · show (if b1 > a1 then _ else _) = a1 ∨ (if b1 > a1 then _ else _) ∈ _ ∧ _
    split
    · rename_i q
      right
      refine ⟨?_, by omega⟩
      rcases h3 with e | e
      · rw [e]; simp
      · exact List.mem_cons_of_mem _ e
    · exact .inl rfl
/-- Widen of two normal forms -/
def cntL : List Int → Int → Int
  | [], _ => 0
  | t :: r, x => (if t ≤ x then 1 else 0) + cntL r x
def cntH : List Int → Int → Int
  | [], _ => 0
  | t :: r, x => (if x ≤ t then 1 else 0) + cntH r x
theorem cntL_le : ∀ (zs : List Int) (x : Int), 0 ≤ cntL zs x ∧ cntL zs x ≤ zs.length
  | [], x => ⟨Int.le_refl _, Int.le_refl _⟩
  | t :: r, x => by
    have := cntL_le r x
    simp only [cntL, List.length_cons]
    split <;> omega
theorem cntH_le : ∀ (zs : List Int) (x : Int), 0 ≤ cntH zs x ∧ cntH zs x ≤ zs.length
  | [], x => ⟨Int.le_refl _, Int.le_refl _⟩
  | t :: r, x => by
    have := cntH_le r x
    simp only [cntH, List.length_cons]
    split <;> omega
theorem cntL_mono {x y : Int} (h : x ≤ y) : ∀ zs : List Int, cntL zs x ≤ cntL zs y
  | [] => Int.le_refl _
  | t :: r => by
    have := cntL_mono h r
    simp only [cntL]
    split <;> split <;> omega
theorem cntH_mono {x y : Int} (h : x ≤ y) : ∀ zs : List Int, cntH zs y ≤ cntH zs x
  | [] => Int.le_refl _
  | t :: r => by
    have := cntH_mono h r
    simp only [cntH]
    split <;> split <;> omega
theorem cntL_lt {x y t : Int} (h : x < t) (h' : t ≤ y) : ∀ {zs : List Int}, t ∈ zs → cntL zs x + 1 ≤ cntL zs y
  | u :: r, hm => by
    rcases List.mem_cons.1 hm with rfl | hm
    · have := cntL_mono (show x ≤ y by omega) r
      simp only [cntL]
      rw [if_neg (by omega), if_pos h']
      omega
    · have := cntL_lt h h' hm
      simp only [cntL]
      split <;> split <;> omega
theorem cntH_lt {x y t : Int} (h : x ≤ t) (h' : t < y) : ∀ {zs : List Int}, t ∈ zs → cntH zs y + 1 ≤ cntH zs x
  | u :: r, hm => by
    rcases List.mem_cons.1 hm with rfl | hm
    · have := cntH_mono (show x ≤ y by omega) r
      simp only [cntH]
      rw [if_neg (by omega), if_pos h]
      omega
    · have := cntH_lt h h' hm
      simp only [cntH]
      split <;> split <;> omega
end Go.Proofs.YtbbplkdjcgdaaaaDoor.V
