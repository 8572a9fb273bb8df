/- WordTexts: the walk, with what the row's listed variables give. Conditions: none. -/
import Derived.Test.YtfcgmfefdgcmjaaDoorWWordTexts
import Derived.Test.YtfcgmfefdgcmjaaDoorR
import Derived.Stop.LaidErr
set_option linter.unusedVariables false
set_option linter.unusedSimpArgs false
namespace Go.Proofs.YtfcgmfefdgcmjaaDoor.V
open Go Go.RowKit Go.Wk

theorem cells85 : Tryd.prog.cellsOf 85 = 1 := by kernel_rfl
theorem cells9 : Tryd.prog.cellsOf 9 = 1 := by kernel_rfl
theorem starred : "*" ++ "errors.errorString" = "*errors.errorString" := by decide
theorem row83 (u : TypeId) (h : Tryd.prog.typeName? 3 u = some "*errors.errorString") : u = 83 :=
  typeName_ptr_named (nm := "errors.errorString") (by rw [starred]; kernel_rfl) (by kernel_rfl) (by decide) u (by rw [starred]; exact h)
theorem both_of_laid {W : World} (h : laidMetH Tryd.prog laidL W) : GOK G W ∧ ∃ ev, W.cell? ⟨1, 0, none⟩ = some ev ∧ (ev = .nilIface ∨ ∃ te pe, ev = .iface te pe) := by
  refine ⟨gok_of_laid h, ?_⟩
  rw [MakeChecks.laidMetH_plain _ _ _ (by kernel_rfl)] at h
  have h3 := laidMet.tail (laidMet.tail (laidMet.tail h))
  obtain ⟨a0, s0, hv0, -, -, -⟩ := laid_sentinel h3 gn3 gt3 Tryd.underlying46 row83 Tryd.underlying83 Tryd.underlying85 rfl rfl Tryd.underlying9 cells85 cells9
  exact ⟨_, by have h0 := World.var?_cell gn3 hv0 0; simpa using h0, .inr ⟨_, _, rfl⟩⟩
theorem wordTexts.walk (s : ByteArray) (v : Int) (W : World) (hs : s.size ≤ 140737488351232) (hv : (Lit.int .i64 v).wf = true) (h : GOK G W ∧ ∃ ev, W.cell? ⟨1, 0, none⟩ = some ev ∧ (ev = .nilIface ∨ ∃ te pe, ev = .iface te pe)) :
    Calls Tryd.prog 3 #[.string s, .int .i64 v] W fun e w' => e = .returned (.bool true) ∧ Below W.heap.size W w' := by
  obtain ⟨hG, ev, he, hev⟩ := h
  exact law_ok W s v (by omega) (i64_wf hv) hG he hev
end Go.Proofs.YtfcgmfefdgcmjaaDoor.V
