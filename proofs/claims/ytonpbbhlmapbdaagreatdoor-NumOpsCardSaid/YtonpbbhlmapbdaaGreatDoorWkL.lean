/- The walk by evaluation, part L: loops that are known. Conditions: none. -/
import Derived.Test.YtonpbbhlmapbdaaGreatDoorWkI
set_option autoImplicit false
set_option linter.unusedVariables false
set_option linter.unusedSimpArgs false
set_option linter.unnecessarySimpa false
namespace Go.Wk
noncomputable section
open Go Go.RowKit
inductive TS where
  | any
  | int (k : IntKind)
  | bool
  | str
  | ptr (i o : Nat)
  | slc (i o n : Nat)
abbrev BT := List (Option (List TS × TypeId))
structure Tpl where
  tm : List TS
  bl : BT
def loopsOf : Code → List Code
  | .seq a b => loopsOf a ++ loopsOf b
  | .cond _ a b => loopsOf a ++ loopsOf b
  | .block _ b => loopsOf b
  | .scope b => loopsOf b
  | .loop b => b :: loopsOf b
  | _ => []
theorem LoopsOK_of {P : Program} {G : Glob} {S : List (Nat × LSum)} : ∀ {c : Code}, (∀ B ∈ loopsOf c, ∀ F, lookS S (hd B) = some F → SoundL P G B F) → LoopsOK P G S c
  | .seq a b, h => ⟨LoopsOK_of fun B hB => h B (by simp [loopsOf, hB]), LoopsOK_of fun B hB => h B (by simp [loopsOf, hB])⟩
  | .cond _ a b, h => ⟨LoopsOK_of fun B hB => h B (by simp [loopsOf, hB]), LoopsOK_of fun B hB => h B (by simp [loopsOf, hB])⟩
  | .block _ b, h => LoopsOK_of (c := b) fun B hB => h B (by simpa [loopsOf] using hB)
  | .scope b, h => LoopsOK_of (c := b) fun B hB => h B (by simpa [loopsOf] using hB)
  | .loop b, h => ⟨fun F hF => h b (by simp [loopsOf]) F hF, LoopsOK_of (c := b) fun B hB => h B (by simp [loopsOf, hB])⟩
  | .skip, _ => trivial
  | .region _ _ _, _ => trivial
  | .rangeFunc _ _ _ _, _ => trivial
  | .exit _, _ => trivial
  | .label _, _ => trivial
  | .goto _, _ => trivial
  | .ret, _ => trivial
  | .refuse _, _ => trivial
end
end Go.Wk
