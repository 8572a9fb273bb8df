/- NumRows: over what came in. Conditions: none. -/
import Derived.Test.YtonpbbhlmapbdaaGreatDoorVA
import Derived.Test.YtonpbbhlmapbdaaGreatDoorV9
set_option linter.unusedVariables false
set_option linter.unusedSimpArgs false
namespace Go.Proofs.YtonpbbhlmapbdaaGreatDoor.V
open Go Go.Wk Go.RowKit

def nmOf : List Lit → Nm
  | [.bool b, .int _ l, .int _ h, .int _ m, .int _ r] => (b, l, h, m, r)
  | _ => botS
def intOfL : List Lit → Int
  | [.int _ n] => n
  | _ => 0
theorem raw5' {a0 : Bool} {a1 a2 a3 a4 : Int} (h1 : I64 a1) (h2 : I64 a2) (h3 : U64 a3) (h4 : U64 a4) : Raw (a0, a1, a2, a3, a4) := ⟨h1, h2, h3, h4⟩
theorem row_of {W : World} {a : Option Addr} {len : Nat} {R : Nat → List Lit} (h : FlatRow W a len [.b, .i .i64, .i .i64, .i .u64, .i .u64] R) (hb : len ≤ 140737488351232) : Row W a ((List.range len).map fun i => nmOf (R i)) where
  big := by simpa using hb
  at_ i hi := by
    have hi' : i < len := by simpa using hi
    obtain ⟨b, off, e, hl, hF, hc⟩ := h.at_ i hi'
    obtain ⟨x0, r0, e0, F0⟩ := AllF_b hF
    obtain ⟨x1, r1, e1, w1, F1⟩ := AllF_i F0
    obtain ⟨x2, r2, e2, w2, F2⟩ := AllF_i F1
    obtain ⟨x3, r3, e3, w3, F3⟩ := AllF_i F2
    obtain ⟨x4, r4, e4, w4, F4⟩ := AllF_i F3
    have e5 := AllF_nil F4
    subst e5 e4 e3 e2 e1
    rw [e0] at hc
    simp only [List.getElem_map, List.getElem_range, e0, nmOf]
    refine ⟨b, off, e, hl, raw5' (i64_wf w1) (i64_wf w2) (u64_wf w3) (u64_wf w4), ?_, ?_, ?_, ?_, ?_⟩
    · exact hc 0 (by simp)
    · exact hc 1 (by simp)
    · exact hc 2 (by simp)
    · exact hc 3 (by simp)
    · exact hc 4 (by simp)
theorem thr_of {W : World} {a : Option Addr} {len : Nat} {R : Nat → List Lit} (h : FlatRow W a len [.i .i64] R) (hb : len ≤ 140737488351232) : Thr W a ((List.range len).map fun i => intOfL (R i)) where
  big := by simpa using hb
  at_ i hi := by
    have hi' : i < len := by simpa using hi
    obtain ⟨b, off, e, hl, hF, hc⟩ := h.at_ i hi'
    obtain ⟨x1, r1, e1, w1, F1⟩ := AllF_i hF
    have e5 := AllF_nil F1
    subst e5
    rw [e1] at hc
    simp only [List.getElem_map, List.getElem_range, e1, intOfL]
    refine ⟨b, off, e, hl, ?_⟩
    have := hc 0 (by simp)
    simpa [Lit.value] using this
theorem numRows.walk (a0 : Bool) (a1 a2 a3 a4 : Int) (ra : Option Addr) (rl rc : Nat) (R : Nat → List Lit) (ta : Option Addr) (tl tc : Nat) (Z : Nat → List Lit) (W : World)
    (h1 : (Lit.int .i64 a1).wf = true) (h2 : (Lit.int .i64 a2).wf = true) (h3 : (Lit.int .u64 a3).wf = true) (h4 : (Lit.int .u64 a4).wf = true) (hr : FlatRow W ra rl [.b, .i .i64, .i .i64, .i .u64, .i .u64] R) (hrb : rl ≤ 140737488351232) (ht : FlatRow W ta tl [.i .i64] Z) (htb : tl ≤ 140737488351232) (hG : GOK G W) :
    Calls Tryz.prog 7 #[.agg #[.bool a0, .int .i64 a1, .int .i64 a2, .int .u64 a3, .int .u64 a4], .slice ra rl rc, .slice ta tl tc] W fun e w' => e = .returned (.bool true) ∧ Below W.heap.size W w' := by
  have := rows_walk hG (x := (a0, a1, a2, a3, a4)) (raw5' (i64_wf h1) (i64_wf h2) (u64_wf h3) (u64_wf h4)) (rc := rc) (tc := tc) (row_of hr hrb) (thr_of ht htb)
  simpa only [List.length_map, List.length_range] using this
end Go.Proofs.YtonpbbhlmapbdaaGreatDoor.V
