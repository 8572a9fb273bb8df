/- NumHolds: the result of any number of one Num and any of the other is one of the answer. Conditions: none. -/
import Derived.Test.YtonpbbhlmapbdaaGreatDoorR
import Derived.Test.YtonpbbhlmapbdaaGreatDoorWNumHolds
set_option linter.unusedVariables false
set_option linter.unusedSimpArgs false
namespace Go.Proofs.YtonpbbhlmapbdaaGreatDoor.V.numHolds
open Go Go.Wk Go.ChangeShapes Go.WideShapes Go.ChangeAt Go.RowKit
open Go.ChangeMaps (open_string shut_string)
set_option maxRecDepth 100000 in
theorem lifted (os : Os) (started : os.Started) (H : Type) (enc : TypeId × Value → H) :
    ReturnsInHanded {} Tryz.checked os 3 .any (fun w args => (Rows.numHoldsSpec.pre enc Tryz.prog Tryz.f3 [] false w args ∧ laidMetH Tryz.prog laidL w) ∧ sizedMet enc Tryz.prog Tryz.f3 (OpenSpec.ofChange Rows.numHoldsSpec) false w args)
      (Rows.numHoldsSpec.post enc Tryz.prog Tryz.f3 false true false false) := by
  refine returnsInHanded_of_change_and (C := Tryz.checked) (X := fun w _ => laidMetH Tryz.prog laidL w) (fun _ _ _ hh h => h.of_heap hh) own started (by kernel_rfl) Tryz.func3
    (ChangeSpec.witness_shaped (enc := enc) (C := Tryz.checked) (os := os) (X := fun w _ => laidMetH Tryz.prog laidL w) false (World.doorLaid Tryz.prog 400 os) #[.agg #[.bool false, .int .i64 0, .int .i64 0, .int .u64 0, .int .u64 0, .bool false, .int .i64 0, .int .i64 0, .int .u64 0, .int .u64 0, .int .i64 0, .int .i64 0]] 8 rfl (World.shaped_of_RefB (by kernel_rfl) (by kernel_rfl)) (by kernel_rfl) (by kernel_rfl) (by kernel_rfl) (door_met os _)) ?_
  intro W base args ds gs before hval0 hW _ hsz0 hL _
  have hsz : (DataW.weightsEach Tryz.prog (Tryz.f3.params.toList ++ Rows.numHoldsSpec.plain.varTypes Tryz.prog) (ds ++ gs)).all (· ≤ reachBytes) = true := hsz0
  have hval : ∀ (j : Nat) t v, Tryz.f3.params[j]? = some t → args[j]? = some v → Value.okWide Tryz.prog W .any base t v := hval0
  have hW' := hW
  obtain ⟨p, q, hA0, hV, rfl, hfz, hnd⟩ := hW
  have hA : DataW.TrodAll enc Tryz.prog W 0 (fun _ => true) true Tryz.f3.params.toList args.toList ds p := hA0
  rw [Tryz.params3] at hA hval hsz
  obtain ⟨v0, vs0, d0, ds0, p0, q0, hargs, rfl, rfl, h0, r0⟩ := trodAll_cons hA
  obtain ⟨rfl, rfl, rfl⟩ := trodAll_nil r0
  obtain rfl : args = #[v0] := by cases args; simp_all
  obtain ⟨rfl, rfl⟩ := trodVars_none hV
  obtain ⟨e0, F0, hp0⟩ := open_flat Tryz.underlying30 k30 (hval 0 30 v0 rfl rfl) h0
  obtain ⟨a0_0, l0_0, el0_0, G0_0⟩ := AllF_b F0
  obtain ⟨a0_1, l0_1, el0_1, w0_1, G0_1⟩ := AllF_i G0_0
  obtain ⟨a0_2, l0_2, el0_2, w0_2, G0_2⟩ := AllF_i G0_1
  obtain ⟨a0_3, l0_3, el0_3, w0_3, G0_3⟩ := AllF_i G0_2
  obtain ⟨a0_4, l0_4, el0_4, w0_4, G0_4⟩ := AllF_i G0_3
  obtain ⟨a0_5, l0_5, el0_5, G0_5⟩ := AllF_b G0_4
  obtain ⟨a0_6, l0_6, el0_6, w0_6, G0_6⟩ := AllF_i G0_5
  obtain ⟨a0_7, l0_7, el0_7, w0_7, G0_7⟩ := AllF_i G0_6
  obtain ⟨a0_8, l0_8, el0_8, w0_8, G0_8⟩ := AllF_i G0_7
  obtain ⟨a0_9, l0_9, el0_9, w0_9, G0_9⟩ := AllF_i G0_8
  obtain ⟨a0_10, l0_10, el0_10, w0_10, G0_10⟩ := AllF_i G0_9
  obtain ⟨a0_11, l0_11, el0_11, w0_11, G0_11⟩ := AllF_i G0_10
  have en0 := AllF_nil G0_11
  rw [el0_0, el0_1, el0_2, el0_3, el0_4, el0_5, el0_6, el0_7, el0_8, el0_9, el0_10, el0_11, en0] at e0
  subst e0
  have lt0 : ∀ x ∈ p0, x.block < W.heap.size := by rw [hp0]; intro x hx; cases hx
  clear hA0 hval0 hsz0 hsz
  refine (numHolds.walk a0_0 a0_1 a0_2 a0_3 a0_4 a0_5 a0_6 a0_7 a0_8 a0_9 a0_10 a0_11 W w0_1 w0_2 w0_3 w0_4 w0_6 w0_7 w0_8 w0_9 w0_10 w0_11 (gok_of_laid hL)).mono fun e W' ⟨he, bel⟩ => ?_
  subst he
  exact ⟨_, rfl, _, _, _, [], _, [], hW', trodAll_mk1 (shut_bool Tryz.underlying4 _), (trodAll_cons_mk (Below.trod laidOut (by kernel_rfl) (of_decide_eq_true (by kernel_rfl)) h0 bel lt0) trodAll_mk0), rfl, bel.frame _, fun h => by cases h⟩
theorem over : Rows.NumHoldsSaid :=
  OpenClaim.holds_of_wide 3 Tryz.f3 rfl rfl rfl rfl rfl rfl rfl ⟨rfl, rfl, rfl, rfl, rfl⟩ rfl rfl rfl rfl rfl (by kernel_rfl) Tryz.func3 (by kernel_rfl)
    (of_decide_eq_true (by kernel_rfl)) (by unfold Func.isWrapper; first | (rw [if_pos (by decide +kernel)]; kernel_rfl) | (rw [if_neg (by decide +kernel)]; exact ⟨rfl, rfl⟩))
    (fun os started H enc _ => lifted os started H enc)
theorem card : Rows.NumHoldsCardSaid :=
  Claim7.holds_tied_plain_at .later [] [.data, .data, .data, .data, .data] true (true, "f676dd6e84a603e404f0cc4343bb332e961659a81497f21cacdba83058b1108a") false
    over (fun _ h => by cases h) (by kernel_rfl) (fun _ h => by cases h) numHolds_row_tie rfl ⟨rfl, rfl⟩ (by kernel_rfl) rfl
    (fun f fn hf hfn => by
      obtain rfl : f = 3 := Option.some.inj ((show Tryz.prog.funcNamed "winnow/winnowlaw13.NumHolds" = some 3 by kernel_rfl).symm.trans hf) |>.symm
      obtain rfl : fn = Tryz.f3 := (Option.some.inj (Tryz.func3.symm.trans hfn)).symm
      exact ⟨by kernel_rfl, fun j t ht => by
        rw [Tryz.params3] at ht
        have hm : t ∈ [30] := by simpa using Array.mem_of_getElem? ht
        have hall : ([30].all fun u => !Tryz.prog.wantsStandIn u) = true := by kernel_rfl
        exact (show Tryz.prog.wantsStandIn t = false by simpa using List.all_eq_true.1 hall t hm)⟩)
    (by kernel_rfl)
end Go.Proofs.YtonpbbhlmapbdaaGreatDoor.V.numHolds
namespace Go.Proofs.YtonpbbhlmapbdaaGreatDoor
theorem numHolds_holds : Rows.NumHoldsCardSaid := V.numHolds.card
#print axioms numHolds_holds
end Go.Proofs.YtonpbbhlmapbdaaGreatDoor
