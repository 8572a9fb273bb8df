/- The fixed fact that the statements ask first. Conditions: none. -/
import Derived.Test.YtoggbmfjkcbilaaDoorN10
import Derived.Test.YtoggbmfjkcbilaaDoorE6
set_option linter.unusedVariables false
set_option linter.unusedSimpArgs false
namespace Go.Proofs.YtoggbmfjkcbilaaDoor.V
open Go Go.Wk Go.RowKit

theorem uu (x : Int) (h : 0 ≤ x ∧ x < 18446744073709551616) : U64 x := h
theorem works_meet : meetS 4 1 6 3 = (12, 9, true) := by
  have g : gg 4 6 = 2 := by decide +kernel
  have p : mpt 4 6 = 3 := by unfold mpt; rw [g]; rfl
  have i : cong_inverse 2 3 = 2 := by
    obtain ⟨_, i1, i2, i3⟩ := inv_s (a := 2) (m := 3) (uu _ (by decide)) (uu _ (by decide)) (by decide) (by decide +kernel)
    obtain ⟨z, hz⟩ := i3
    omega
  have r : nr 4 1 = 1 := rfl
  have s : nr 6 3 = 3 := rfl
  have k : mk 4 6 1 3 = 1 := by unfold mk; rw [g, p]; rfl
  have t : mst 4 6 1 3 = 2 := by unfold mst; rw [g, p, k, show (4 : Int) / 2 = 2 from rfl, i]; rfl
  have x : mx 4 6 1 3 = 9 := by unfold mx; rw [t]; rfl
  have l : ml 4 6 = 12 := by unfold ml; rw [p]; rfl
  unfold meetS
  rw [if_neg (by decide), if_neg (by decide), r, s]
  unfold meet2
  rw [g, l, x, if_neg (by decide), if_pos (by decide)]
theorem works_k {γ : Type} (n : γ) (k : Bool → γ) : law_works.c n k = k true := by
  have h4 := uu 4 (by decide)
  have h1 := uu 1 (by decide)
  have h6 := uu 6 (by decide)
  have h3 := uu 3 (by decide)
  have h9 := uu 9 (by decide)
  have h12 := uu 12 (by decide)
  have h0 := uu 0 (by decide)
  unfold law_works.c
  (try unfold law_works.c0)
  have i21 : I64 21 := by unfold I64; decide
  have w3 : IntKind.u64.wrap 3 = 3 := rfl
  have w9 : IntKind.u64.wrap 9 = 9 := rfl
  have e1 : hasS 12 9 21 = true := by decide +kernel
  have e2 : leqS 12 9 3 0 = true := by decide +kernel
  have e3 : joinS 0 3 0 9 = (6, 3) := by decide +kernel
  simp only [meet_ok h4 h1 h6 h3, meet_s h4 h1 h6 h3, works_meet, has_s h12 h9 i21, leq_ok h12 h9 h3 h0, leq_s h12 h9 h3 h0, const_s, w3, w9, join_ok h0 h3 h0 h9, join_s h0 h3 h0 h9, e1, e2, e3]
  rfl
theorem works_ok : law_works.ok = true := works_k _ _
theorem works_s : law_works = true := works_k _ _
end Go.Proofs.YtoggbmfjkcbilaaDoor.V
