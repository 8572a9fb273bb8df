/- CongMeets: order, join and meet of classes are those of the sets. Conditions: none. -/
import Derived.Test.YtoggbmfjkcbilaaDoorR
import Derived.Test.YtoggbmfjkcbilaaDoorWCongMeets
set_option linter.unusedVariables false
set_option linter.unusedSimpArgs false
namespace Go.Proofs.YtoggbmfjkcbilaaDoor.V.congMeets
open Go Go.Wk Go.ChangeShapes Go.WideShapes Go.ChangeAt Go.RowKit
open Go.ChangeMaps (open_string shut_string)
set_option maxRecDepth 100000 in
theorem lifted (os : Os) (started : os.Started) (H : Type) (enc : TypeId × Value → H) :
    ReturnsInHanded {} Tryd.checked os 3 .any (fun w args => (Rows.congMeetsSpec.pre enc Tryd.prog Tryd.f3 [] false w args ∧ laidMetH Tryd.prog laidLS w) ∧ sizedMet enc Tryd.prog Tryd.f3 (OpenSpec.ofChange Rows.congMeetsSpec) false w args)
      (Rows.congMeetsSpec.post enc Tryd.prog Tryd.f3 false true false false) := by
  refine returnsInHanded_of_change_and (C := Tryd.checked) (X := fun w _ => laidMetH Tryd.prog laidLS w) (fun _ _ _ hh h => h.of_heap hh) own started (by kernel_rfl) Tryd.func3
    (ChangeSpec.witness_shaped (enc := enc) (C := Tryd.checked) (os := os) (X := fun w _ => laidMetH Tryd.prog laidLS w) false (World.doorLaid Tryd.prog 400 os) #[.agg #[.int .u64 0, .int .u64 0], .agg #[.int .u64 0, .int .u64 0], .agg #[.int .u64 0, .int .u64 0], .int .i64 0] 8 rfl (World.shaped_of_RefB (by kernel_rfl) (by kernel_rfl)) (by kernel_rfl) (by kernel_rfl) (by kernel_rfl) (door_metS os _)) ?_
  intro W base args ds gs before hval0 hW _ hsz0 hL _
  have hsz : (DataW.weightsEach Tryd.prog (Tryd.f3.params.toList ++ Rows.congMeetsSpec.plain.varTypes Tryd.prog) (ds ++ gs)).all (· ≤ reachBytes) = true := hsz0
  have hval : ∀ (j : Nat) t v, Tryd.f3.params[j]? = some t → args[j]? = some v → Value.okWide Tryd.prog W .any base t v := hval0
  have hW' := hW
  obtain ⟨p, q, hA0, hV, rfl, hfz, hnd⟩ := hW
  have hA : DataW.TrodAll enc Tryd.prog W 0 (fun _ => true) true Tryd.f3.params.toList args.toList ds p := hA0
  rw [Tryd.params3] at hA hval hsz
  obtain ⟨v0, vs0, d0, ds0, p0, q0, hargs, rfl, rfl, h0, r0⟩ := trodAll_cons hA
  obtain ⟨v1, vs1, d1, ds1, p1, q1, rfl, rfl, rfl, h1, r1⟩ := trodAll_cons r0
  obtain ⟨v2, vs2, d2, ds2, p2, q2, rfl, rfl, rfl, h2, r2⟩ := trodAll_cons r1
  obtain ⟨v3, vs3, d3, ds3, p3, q3, rfl, rfl, rfl, h3, r3⟩ := trodAll_cons r2
  obtain ⟨rfl, rfl, rfl⟩ := trodAll_nil r3
  obtain rfl : args = #[v0, v1, v2, v3] := by cases args; simp_all
  obtain ⟨rfl, rfl⟩ := trodVars_none hV
  obtain ⟨e0, F0, hp0⟩ := open_flat Tryd.underlying24 k24 (hval 0 24 v0 rfl rfl) h0
  obtain ⟨a0_0, l0_0, el0_0, w0_0, G0_0⟩ := AllF_i F0
  obtain ⟨a0_1, l0_1, el0_1, w0_1, G0_1⟩ := AllF_i G0_0
  have en0 := AllF_nil G0_1
  rw [el0_0, el0_1, en0] at e0
  subst e0
  have lt0 : ∀ x ∈ p0, x.block < W.heap.size := by rw [hp0]; intro x hx; cases hx
  obtain ⟨e1, F1, hp1⟩ := open_flat Tryd.underlying24 k24 (hval 1 24 v1 rfl rfl) h1
  obtain ⟨a1_0, l1_0, el1_0, w1_0, G1_0⟩ := AllF_i F1
  obtain ⟨a1_1, l1_1, el1_1, w1_1, G1_1⟩ := AllF_i G1_0
  have en1 := AllF_nil G1_1
  rw [el1_0, el1_1, en1] at e1
  subst e1
  have lt1 : ∀ x ∈ p1, x.block < W.heap.size := by rw [hp1]; intro x hx; cases hx
  obtain ⟨e2, F2, hp2⟩ := open_flat Tryd.underlying24 k24 (hval 2 24 v2 rfl rfl) h2
  obtain ⟨a2_0, l2_0, el2_0, w2_0, G2_0⟩ := AllF_i F2
  obtain ⟨a2_1, l2_1, el2_1, w2_1, G2_1⟩ := AllF_i G2_0
  have en2 := AllF_nil G2_1
  rw [el2_0, el2_1, en2] at e2
  subst e2
  have lt2 : ∀ x ∈ p2, x.block < W.heap.size := by rw [hp2]; intro x hx; cases hx
  obtain ⟨a3, rfl, rfl, rfl, w3⟩ := open_int Tryd.underlying2 (hval 3 2 v3 rfl rfl) h3
  clear hA0 hval0 hsz0 hsz
  refine (congMeets.walk a0_0 a0_1 a1_0 a1_1 a2_0 a2_1 a3 W w0_0 w0_1 w1_0 w1_1 w2_0 w2_1 w3 (gok_of_laidS hL)).mono fun e W' ⟨he, bel⟩ => ?_
  subst he
  exact ⟨_, rfl, _, _, _, [], _, [], hW', trodAll_mk1 (shut_bool Tryd.underlying4 _), (trodAll_cons_mk (Below.trod laidOut (by kernel_rfl) (of_decide_eq_true (by kernel_rfl)) h0 bel lt0) (trodAll_cons_mk (Below.trod laidOut (by kernel_rfl) (of_decide_eq_true (by kernel_rfl)) h1 bel lt1) (trodAll_cons_mk (Below.trod laidOut (by kernel_rfl) (of_decide_eq_true (by kernel_rfl)) h2 bel lt2) (trodAll_cons_mk (shut_int Tryd.underlying2 w3) trodAll_mk0)))), rfl, bel.frame _, fun h => by cases h⟩
theorem over : Rows.CongMeetsSaid :=
  OpenClaim.holds_of_wide 3 Tryd.f3 rfl rfl rfl rfl rfl rfl rfl ⟨rfl, rfl, rfl, rfl, rfl⟩ rfl rfl rfl rfl rfl (by kernel_rfl) Tryd.func3 (by kernel_rfl)
    (of_decide_eq_true (by kernel_rfl)) (by unfold Func.isWrapper; first | (rw [if_pos (by decide +kernel)]; kernel_rfl) | (rw [if_neg (by decide +kernel)]; exact ⟨rfl, rfl⟩))
    (fun os started H enc _ => lifted os started H enc)
theorem card : Rows.CongMeetsCardSaid :=
  Claim7.holds_tied_plain_at .later [] [.data] true (true, "da5d5e13368c32a5ca5f1765fff494c00b981b02b698d99851f5200e9e53ed59") false
    over (fun _ h => by cases h) (by kernel_rfl) (fun _ h => by cases h) congMeets_row_tie rfl ⟨rfl, rfl⟩ (by kernel_rfl) rfl
    (fun f fn hf hfn => by
      obtain rfl : f = 3 := Option.some.inj ((show Tryd.prog.funcNamed "winnow/winnowlaw12.CongMeets" = some 3 by kernel_rfl).symm.trans hf) |>.symm
      obtain rfl : fn = Tryd.f3 := (Option.some.inj (Tryd.func3.symm.trans hfn)).symm
      exact ⟨by kernel_rfl, fun j t ht => by
        rw [Tryd.params3] at ht
        have hm : t ∈ [24, 24, 24, 2] := by simpa using Array.mem_of_getElem? ht
        have hall : ([24, 24, 24, 2].all fun u => !Tryd.prog.wantsStandIn u) = true := by kernel_rfl
        exact (show Tryd.prog.wantsStandIn t = false by simpa using List.all_eq_true.1 hall t hm)⟩)
    (by kernel_rfl)
end Go.Proofs.YtoggbmfjkcbilaaDoor.V.congMeets
namespace Go.Proofs.YtoggbmfjkcbilaaDoor
theorem congMeets_holds : Rows.CongMeetsCardSaid := V.congMeets.card
#print axioms congMeets_holds
end Go.Proofs.YtoggbmfjkcbilaaDoor
