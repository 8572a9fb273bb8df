/- Chapter 15: the walk of the law on rows of widenings. Conditions: none. -/
import Derived.Test.YtmadebejnhinoaaDoorQ3
import Derived.Test.YtmadebejnhinoaaDoorW15
set_option linter.unusedVariables false
set_option linter.unusedSimpArgs false
namespace Go.Proofs.YtmadebejnhinoaaDoor.V
open Go Go.Wk Go.RowKit
noncomputable section
theorem byB_le (c : Cd) : byB c ≤ 1000 := by unfold byB; repeat' split
                                             all_goals omega
theorem env_u {e : cE.T} (h : wfD_u byB cE e) : envP (toE e) ∧ LnE bulkN (toE e) := by
  refine ⟨env_wf (wfD_of_u byB_le h), ?_⟩
  simp only [wfD_u] at h
  exact ⟨h.2.1.1, h.2.2.1⟩
theorem enc_decC {e : cE.T} {l : List cE.T} {z : List Int} : law_EnvChains.F [.agg (cellsD cE e), .dl cE l, .dl cI64 z] = some (law_EnvChains.g e l z, law_EnvChains.val (law_EnvChains e l z)) := rfl
theorem rlsC {ρ : Rf} {a b c : SV} {v0 v1 v2 : Value} (h0 : SV.rl ρ a v0) (h1 : SV.rl ρ b v1) (h2 : SV.rl ρ c v2) : SV.rls ρ [a, b, c] [v0, v1, v2] := by simp only [SV.rls]; exact ⟨h0, h1, h2, trivial⟩
theorem envChains.walk {v0 v1 v2 : Value} (y0 : cE.T) (y1 : List cE.T) (y2 : List Int) (W : World) (w0 : wfD_u byB cE y0) (r0 : SV.rl (rfOf W) (.agg (cellsD cE y0)) v0) (w1 : wfD_u byB (.list cE) y1) (r1 : rc (lies W) (.list cE) y1 [v1])
    (w2 : wfD_u byB (.list cI64) y2) (r2 : rc (lies W) (.list cI64) y2 [v2]) (hG : GOK G W) : Calls P 4 #[v0, v1, v2] W fun e w' => e = .returned (.bool true) ∧ Below W.heap.size W w' := by
  obtain ⟨a1, a2⟩ := env_u w0
  have l1 : y1.length ≤ bulkN := by simp only [wfD_u] at w1; exact w1.1
  have l2 : ∀ x ∈ y1, envP (toE x) ∧ LnE bulkN (toE x) := fun x hx => env_u (by simp only [wfD_u] at w1; simp only [wfD_u]; exact w1.2 x hx)
  have z1 : y2.length ≤ bulkN := by simp only [wfD_u] at w2; exact w2.1
  have z2 : intsOK y2 := ints_wf (wfD_of_u byB_le w2)
  have h1 := law_EnvChains.is (N := y1.length + 1) y0 y1 y2 a1 a2 l2 l1 z2 z1 (by omega)
  have hg : law_EnvChains.g y0 y1 y2 = true := by unfold law_EnvChains.g; rw [hide_eq, h1]; rfl
  have hv : law_EnvChains y0 y1 y2 = true := by unfold law_EnvChains; rw [hide_eq, h1]; rfl
  refine (TabOK_callsX (xs := [v0, v1, v2]) C law_EnvChains.t (g := 4) rfl Tryd.func4 (by kernel_rfl) hG (FOK_of W) (rlsC r0 (by simp only [SV.rl]; exact r1) (by simp only [SV.rl]; exact r2)) (enc_decC.trans (by rw [hg, hv]))).mono ?_
  exact fun e w' h => done_true (P' := 0) h
end
end Go.Proofs.YtmadebejnhinoaaDoor.V
