/- Chapter 15: the laws' walks, joined. Conditions: none. -/
import Derived.Test.YtmadebejnhinoaaDoorQA
import Derived.Test.YtmadebejnhinoaaDoorWkO
set_option linter.unusedVariables false
set_option linter.unusedSimpArgs false
namespace Go.Proofs.YtmadebejnhinoaaDoor.V
open Go Go.Wk Go.RowKit
noncomputable section
/-- the bytes of an element -/
def byB (c : Cd) : Nat := if c = cN then 40 else if c = cI64 then 8 else if c = .list cI64 then 24 else if c = cE then 56 else 1
theorem byN : byB cN = 40 := by decide
theorem byI : byB cI64 = 8 := by decide
theorem byL : byB (.list cI64) = 24 := by decide
theorem list_wf {l : List Nm} (h : wfD byB (.list cN) l) : listOK l := by
  simp only [wfD, byN] at h
  refine ⟨fun x hx => ?_, h.1⟩
  obtain ⟨_, h1, h2, h3, h4⟩ := h.2 x hx
  exact ⟨i64_wf h1, i64_wf h2, u64_wf h3, u64_wf h4⟩
theorem env_wf {e : cE.T} (h : wfD byB cE e) : envP (toE e) := by
  simp only [wfD] at h
  exact ⟨list_wf (by simp only [wfD]; exact h.2.1), list_wf (by simp only [wfD]; exact h.2.2)⟩
theorem ints_wf {l : List Int} (h : wfD byB (.list cI64) l) : intsOK l := by
  simp only [wfD, byI] at h
  exact ⟨fun x hx => i64_wf (h.2 x hx), by have := h.1; unfold big40; omega⟩
theorem st_wf {s : cSt.T} (h : wfD byB cSt s) : stP s := by
  have h1 := h.1
  have h2 := h.2
  simp only [wfD, byL] at h2
  exact ⟨ints_wf h1, fun l hl => ints_wf (by simp only [wfD]; exact h2.2 l hl), by have := h2.1; unfold big40; omega⟩
theorem enc_dec4 {e f g : cE.T} {z : List Int} : law_EnvOrders.F [.agg (cellsD cE e), .agg (cellsD cE f), .agg (cellsD cE g), .dl cI64 z] = some (law_EnvOrders.ok e f g z, .val (.bool (law_EnvOrders e f g z))) := rfl
theorem enc_decM {e f : cE.T} {s : cSt.T} {z : List Int} : law_EnvMembers.F [.agg (cellsD cE e), .agg (cellsD cE f), .agg (cellsD cSt s), .dl cI64 z] = some (law_EnvMembers.g e f s z, law_EnvMembers.val (law_EnvMembers e f s z)) := rfl
theorem done_true {P' : Nat} {W : World} {e : Ending} {w' : World} {ρ : Rf} (h : ∃ x, e = .returned x ∧ Below W.heap.size W w' ∧ SV.rl ρ (.val (.bool true)) x) : e = .returned (.bool true) ∧ Below W.heap.size W w' := by
  obtain ⟨x, rfl, hb, hx⟩ := h
  simp only [SV.rl] at hx
  exact ⟨by rw [hx], hb⟩
theorem rls4 {ρ : Rf} {a b c d : SV} {v0 v1 v2 v3 : Value} (h0 : SV.rl ρ a v0) (h1 : SV.rl ρ b v1) (h2 : SV.rl ρ c v2) (h3 : SV.rl ρ d v3) : SV.rls ρ [a, b, c, d] [v0, v1, v2, v3] := by simp only [SV.rls]; exact ⟨h0, h1, h2, h3, trivial⟩
theorem envOrders.walk {v0 v1 v2 v3 : Value} (y0 y1 y2 : cE.T) (y3 : List Int) (W : World) (w0 : wfD byB cE y0) (r0 : SV.rl (rfOf W) (.agg (cellsD cE y0)) v0) (w1 : wfD byB cE y1) (r1 : SV.rl (rfOf W) (.agg (cellsD cE y1)) v1) (w2 : wfD byB cE y2) (r2 : SV.rl (rfOf W) (.agg (cellsD cE y2)) v2)
    (w3 : wfD byB (.list cI64) y3) (r3 : rc (lies W) (.list cI64) y3 [v3]) (hG : GOK G W) : Calls P 3 #[v0, v1, v2, v3] W fun e w' => e = .returned (.bool true) ∧ Below W.heap.size W w' := by
  obtain ⟨h1, h2⟩ := law_EnvOrders.is y0 y1 y2 y3 (env_wf w0) (env_wf w1) (env_wf w2) (ints_wf w3)
  refine (TabOK_callsX (xs := [v0, v1, v2, v3]) C law_EnvOrders.t (g := 3) rfl Tryd.func3 (by kernel_rfl) hG (FOK_of W) (rls4 r0 r1 r2 (by simp only [SV.rl]; exact r3)) (enc_dec4.trans (by rw [show law_EnvOrders.ok y0 y1 y2 y3 = true from h1, h2]))).mono ?_
  exact fun e w' h => done_true (P' := 0) h
theorem envMembers.walk {v0 v1 v2 v3 : Value} (y0 y1 : cE.T) (y2 : cSt.T) (y3 : List Int) (W : World) (w0 : wfD byB cE y0) (r0 : SV.rl (rfOf W) (.agg (cellsD cE y0)) v0) (w1 : wfD byB cE y1) (r1 : SV.rl (rfOf W) (.agg (cellsD cE y1)) v1) (w2 : wfD byB cSt y2) (r2 : SV.rl (rfOf W) (.agg (cellsD cSt y2)) v2)
    (w3 : wfD byB (.list cI64) y3) (r3 : rc (lies W) (.list cI64) y3 [v3]) (hG : GOK G W) : Calls P 5 #[v0, v1, v2, v3] W fun e w' => e = .returned (.bool true) ∧ Below W.heap.size W w' := by
  have h1 := law_EnvMembers.is (N := y2.2.length + 1) y0 y1 y2 y3 (env_wf w0) (env_wf w1) (st_wf w2) (ints_wf w3) (by omega)
  have hg : law_EnvMembers.g y0 y1 y2 y3 = true := by unfold law_EnvMembers.g; rw [hide_eq, h1]; rfl
  have hv : law_EnvMembers y0 y1 y2 y3 = true := by unfold law_EnvMembers; rw [hide_eq, h1]; rfl
  refine (TabOK_callsX (xs := [v0, v1, v2, v3]) C law_EnvMembers.t (g := 5) rfl Tryd.func5 (by kernel_rfl) hG (FOK_of W) (rls4 r0 r1 r2 (by simp only [SV.rl]; exact r3)) (enc_decM.trans (by rw [hg, hv]))).mono ?_
  exact fun e w' h => done_true (P' := 0) h
end
end Go.Proofs.YtmadebejnhinoaaDoor.V
