/- InvTurned: a comparison with its operands changed about answers the same, changed about; two single numbers are answered as they compare. Conditions: none. -/
import Derived.Test.YtonpbbhlmapbdaaGreatDoorR
import Derived.Test.YtonpbbhlmapbdaaGreatDoorWInvTurned
set_option linter.unusedVariables false
set_option linter.unusedSimpArgs false
namespace Go.Proofs.YtonpbbhlmapbdaaGreatDoor.V.invTurned
open Go Go.Wk Go.ChangeShapes Go.WideShapes Go.ChangeAt Go.RowKit
open Go.ChangeMaps (open_string shut_string)
set_option maxRecDepth 100000 in
theorem lifted (os : Os) (started : os.Started) (H : Type) (enc : TypeId × Value → H) :
    ReturnsInHanded {} Tryz.checked os 12 .any (fun w args => (Rows.invTurnedSpec.pre enc Tryz.prog Tryz.f12 [] false w args ∧ laidMetH Tryz.prog laidL w) ∧ sizedMet enc Tryz.prog Tryz.f12 (OpenSpec.ofChange Rows.invTurnedSpec) false w args)
      (Rows.invTurnedSpec.post enc Tryz.prog Tryz.f12 false true false false) := by
  refine returnsInHanded_of_change_and (C := Tryz.checked) (X := fun w _ => laidMetH Tryz.prog laidL w) (fun _ _ _ hh h => h.of_heap hh) own started (by kernel_rfl) Tryz.func12
    (ChangeSpec.witness_shaped (enc := enc) (C := Tryz.checked) (os := os) (X := fun w _ => laidMetH Tryz.prog laidL w) false (World.doorLaid Tryz.prog 400 os) #[.int .i64 0, .agg #[.bool false, .int .i64 0, .int .i64 0, .int .u64 0, .int .u64 0, .bool false, .int .i64 0, .int .i64 0, .int .u64 0, .int .u64 0, .bool false, .int .i64 0, .int .i64 0, .int .u64 0, .int .u64 0, .int .i64 0, .int .i64 0]] 8 rfl (World.shaped_of_RefB (by kernel_rfl) (by kernel_rfl)) (by kernel_rfl) (by kernel_rfl) (by kernel_rfl) (door_met os _)) ?_
  intro W base args ds gs before hval0 hW _ hsz0 hL _
  have hsz : (DataW.weightsEach Tryz.prog (Tryz.f12.params.toList ++ Rows.invTurnedSpec.plain.varTypes Tryz.prog) (ds ++ gs)).all (· ≤ reachBytes) = true := hsz0
  have hval : ∀ (j : Nat) t v, Tryz.f12.params[j]? = some t → args[j]? = some v → Value.okWide Tryz.prog W .any base t v := hval0
  have hW' := hW
  obtain ⟨p, q, hA0, hV, rfl, hfz, hnd⟩ := hW
  have hA : DataW.TrodAll enc Tryz.prog W 0 (fun _ => true) true Tryz.f12.params.toList args.toList ds p := hA0
  rw [Tryz.params12] at hA hval hsz
  obtain ⟨v0, vs0, d0, ds0, p0, q0, hargs, rfl, rfl, h0, r0⟩ := trodAll_cons hA
  obtain ⟨v1, vs1, d1, ds1, p1, q1, rfl, rfl, rfl, h1, r1⟩ := trodAll_cons r0
  obtain ⟨rfl, rfl, rfl⟩ := trodAll_nil r1
  obtain rfl : args = #[v0, v1] := by cases args; simp_all
  obtain ⟨rfl, rfl⟩ := trodVars_none hV
  obtain ⟨a0, rfl, rfl, rfl, w0⟩ := open_int Tryz.underlying34 (hval 0 34 v0 rfl rfl) h0
  obtain ⟨e1, F1, hp1⟩ := open_flat Tryz.underlying65 k65 (hval 1 65 v1 rfl rfl) h1
  obtain ⟨a1_0, l1_0, el1_0, G1_0⟩ := AllF_b F1
  obtain ⟨a1_1, l1_1, el1_1, w1_1, G1_1⟩ := AllF_i G1_0
  obtain ⟨a1_2, l1_2, el1_2, w1_2, G1_2⟩ := AllF_i G1_1
  obtain ⟨a1_3, l1_3, el1_3, w1_3, G1_3⟩ := AllF_i G1_2
  obtain ⟨a1_4, l1_4, el1_4, w1_4, G1_4⟩ := AllF_i G1_3
  obtain ⟨a1_5, l1_5, el1_5, G1_5⟩ := AllF_b G1_4
  obtain ⟨a1_6, l1_6, el1_6, w1_6, G1_6⟩ := AllF_i G1_5
  obtain ⟨a1_7, l1_7, el1_7, w1_7, G1_7⟩ := AllF_i G1_6
  obtain ⟨a1_8, l1_8, el1_8, w1_8, G1_8⟩ := AllF_i G1_7
  obtain ⟨a1_9, l1_9, el1_9, w1_9, G1_9⟩ := AllF_i G1_8
  obtain ⟨a1_10, l1_10, el1_10, G1_10⟩ := AllF_b G1_9
  obtain ⟨a1_11, l1_11, el1_11, w1_11, G1_11⟩ := AllF_i G1_10
  obtain ⟨a1_12, l1_12, el1_12, w1_12, G1_12⟩ := AllF_i G1_11
  obtain ⟨a1_13, l1_13, el1_13, w1_13, G1_13⟩ := AllF_i G1_12
  obtain ⟨a1_14, l1_14, el1_14, w1_14, G1_14⟩ := AllF_i G1_13
  obtain ⟨a1_15, l1_15, el1_15, w1_15, G1_15⟩ := AllF_i G1_14
  obtain ⟨a1_16, l1_16, el1_16, w1_16, G1_16⟩ := AllF_i G1_15
  have en1 := AllF_nil G1_16
  rw [el1_0, el1_1, el1_2, el1_3, el1_4, el1_5, el1_6, el1_7, el1_8, el1_9, el1_10, el1_11, el1_12, el1_13, el1_14, el1_15, el1_16, en1] at e1
  subst e1
  have lt1 : ∀ x ∈ p1, x.block < W.heap.size := by rw [hp1]; intro x hx; cases hx
  clear hA0 hval0 hsz0 hsz
  refine (invTurned.walk a0 a1_0 a1_1 a1_2 a1_3 a1_4 a1_5 a1_6 a1_7 a1_8 a1_9 a1_10 a1_11 a1_12 a1_13 a1_14 a1_15 a1_16 W w0 w1_1 w1_2 w1_3 w1_4 w1_6 w1_7 w1_8 w1_9 w1_11 w1_12 w1_13 w1_14 w1_15 w1_16 (gok_of_laid hL)).mono fun e W' ⟨he, bel⟩ => ?_
  subst he
  exact ⟨_, rfl, _, _, _, [], _, [], hW', trodAll_mk1 (shut_bool Tryz.underlying4 _), (trodAll_cons_mk (shut_int Tryz.underlying34 w0) (trodAll_cons_mk (Below.trod laidOut (by kernel_rfl) (of_decide_eq_true (by kernel_rfl)) h1 bel lt1) trodAll_mk0)), rfl, bel.frame _, fun h => by cases h⟩
theorem over : Rows.InvTurnedSaid :=
  OpenClaim.holds_of_wide 12 Tryz.f12 rfl rfl rfl rfl rfl rfl rfl ⟨rfl, rfl, rfl, rfl, rfl⟩ rfl rfl rfl rfl rfl (by kernel_rfl) Tryz.func12 (by kernel_rfl)
    (of_decide_eq_true (by kernel_rfl)) (by unfold Func.isWrapper; first | (rw [if_pos (by decide +kernel)]; kernel_rfl) | (rw [if_neg (by decide +kernel)]; exact ⟨rfl, rfl⟩))
    (fun os started H enc _ => lifted os started H enc)
theorem card : Rows.InvTurnedCardSaid :=
  Claim7.holds_tied_plain_at .later [] [.data, .data, .data, .data, .data] true (true, "f676dd6e84a603e404f0cc4343bb332e961659a81497f21cacdba83058b1108a") false
    over (fun _ h => by cases h) (by kernel_rfl) (fun _ h => by cases h) invTurned_row_tie rfl ⟨rfl, rfl⟩ (by kernel_rfl) rfl
    (fun f fn hf hfn => by
      obtain rfl : f = 12 := Option.some.inj ((show Tryz.prog.funcNamed "winnow/winnowlaw14.InvTurned" = some 12 by kernel_rfl).symm.trans hf) |>.symm
      obtain rfl : fn = Tryz.f12 := (Option.some.inj (Tryz.func12.symm.trans hfn)).symm
      exact ⟨by kernel_rfl, fun j t ht => by
        rw [Tryz.params12] at ht
        have hm : t ∈ [34, 65] := by simpa using Array.mem_of_getElem? ht
        have hall : ([34, 65].all fun u => !Tryz.prog.wantsStandIn u) = true := by kernel_rfl
        exact (show Tryz.prog.wantsStandIn t = false by simpa using List.all_eq_true.1 hall t hm)⟩)
    (by kernel_rfl)
end Go.Proofs.YtonpbbhlmapbdaaGreatDoor.V.invTurned
namespace Go.Proofs.YtonpbbhlmapbdaaGreatDoor
theorem invTurned_holds : Rows.InvTurnedCardSaid := V.invTurned.card
#print axioms invTurned_holds
end Go.Proofs.YtonpbbhlmapbdaaGreatDoor
