/- NumRows: a row of widenings holds all that it was widened by, and changes but few times. Conditions: none. -/
import Derived.Test.YtonpbbhlmapbdaaGreatDoorR
import Derived.Test.YtonpbbhlmapbdaaGreatDoorWNumRows
set_option linter.unusedVariables false
set_option linter.unusedSimpArgs false
namespace Go.Proofs.YtonpbbhlmapbdaaGreatDoor.V.numRows
open Go Go.Wk Go.ChangeShapes Go.WideShapes Go.ChangeAt Go.RowKit
open Go.ChangeMaps (open_string shut_string)
set_option maxRecDepth 100000 in
theorem lifted (os : Os) (started : os.Started) (H : Type) (enc : TypeId × Value → H) :
    ReturnsInHanded {} Tryz.checked os 7 .any (fun w args => (Rows.numRowsSpec.pre enc Tryz.prog Tryz.f7 [] false w args ∧ laidMetH Tryz.prog laidL w) ∧ sizedMet enc Tryz.prog Tryz.f7 (OpenSpec.ofChange Rows.numRowsSpec) false w args)
      (Rows.numRowsSpec.post enc Tryz.prog Tryz.f7 false true false false) := by
  refine returnsInHanded_of_change_and (C := Tryz.checked) (X := fun w _ => laidMetH Tryz.prog laidL w) (fun _ _ _ hh h => h.of_heap hh) own started (by kernel_rfl) Tryz.func7
    (ChangeSpec.witness_shaped (enc := enc) (C := Tryz.checked) (os := os) (X := fun w _ => laidMetH Tryz.prog laidL w) false (World.doorLaid Tryz.prog 400 os) #[.agg #[.bool false, .int .i64 0, .int .i64 0, .int .u64 0, .int .u64 0], .slice none 0 0, .slice none 0 0] 8 rfl (World.shaped_of_RefB (by kernel_rfl) (by kernel_rfl)) (by kernel_rfl) (by kernel_rfl) (by kernel_rfl) (door_met os _)) ?_
  intro W base args ds gs before hval0 hW _ hsz0 hL _
  have hsz : (DataW.weightsEach Tryz.prog (Tryz.f7.params.toList ++ Rows.numRowsSpec.plain.varTypes Tryz.prog) (ds ++ gs)).all (· ≤ reachBytes) = true := hsz0
  have hval : ∀ (j : Nat) t v, Tryz.f7.params[j]? = some t → args[j]? = some v → Value.okWide Tryz.prog W .any base t v := hval0
  have hW' := hW
  obtain ⟨p, q, hA0, hV, rfl, hfz, hnd⟩ := hW
  have hA : DataW.TrodAll enc Tryz.prog W 0 (fun _ => true) true Tryz.f7.params.toList args.toList ds p := hA0
  rw [Tryz.params7] at hA hval hsz
  obtain ⟨v0, vs0, d0, ds0, p0, q0, hargs, rfl, rfl, h0, r0⟩ := trodAll_cons hA
  obtain ⟨v1, vs1, d1, ds1, p1, q1, rfl, rfl, rfl, h1, r1⟩ := trodAll_cons r0
  obtain ⟨v2, vs2, d2, ds2, p2, q2, rfl, rfl, rfl, h2, r2⟩ := trodAll_cons r1
  obtain ⟨rfl, rfl, rfl⟩ := trodAll_nil r2
  obtain rfl : args = #[v0, v1, v2] := by cases args; simp_all
  obtain ⟨rfl, rfl⟩ := trodVars_none hV
  obtain ⟨e0, F0, hp0⟩ := open_flat Tryz.underlying28 k28 (hval 0 28 v0 rfl rfl) h0
  obtain ⟨a0_0, l0_0, el0_0, G0_0⟩ := AllF_b F0
  obtain ⟨a0_1, l0_1, el0_1, w0_1, G0_1⟩ := AllF_i G0_0
  obtain ⟨a0_2, l0_2, el0_2, w0_2, G0_2⟩ := AllF_i G0_1
  obtain ⟨a0_3, l0_3, el0_3, w0_3, G0_3⟩ := AllF_i G0_2
  obtain ⟨a0_4, l0_4, el0_4, w0_4, G0_4⟩ := AllF_i G0_3
  have en0 := AllF_nil G0_4
  rw [el0_0, el0_1, el0_2, el0_3, el0_4, en0] at e0
  subst e0
  have lt0 : ∀ x ∈ p0, x.block < W.heap.size := by rw [hp0]; intro x hx; cases hx
  obtain ⟨a1, len1, cap1, rfl⟩ := okWide_slice Tryz.underlying55 (hval 1 55 v1 rfl rfl)
  have k1_ := h1
  have lt1 : ∀ x ∈ p1, x.block < W.heap.size := by obtain ⟨m, hm⟩ := k1_; exact DataW.trod_lt m _ _ _ hm
  obtain ⟨z1, w1, yy1⟩ := open_flats (ks := [.b, .i .i64, .i .i64, .i .u64, .i .u64]) Tryz.underlying55 (by kernel_rfl) (by kernel_rfl) (by decide) h1
  have y1 : len1 ≤ 140737488351232 := small_flats hsz (j := 1) (t := 55) rfl rfl Tryz.underlying55 (of_decide_eq_true (by kernel_rfl)) yy1
  obtain ⟨a2, len2, cap2, rfl⟩ := okWide_slice Tryz.underlying51 (hval 2 51 v2 rfl rfl)
  have k2_ := h2
  have lt2 : ∀ x ∈ p2, x.block < W.heap.size := by obtain ⟨m, hm⟩ := k2_; exact DataW.trod_lt m _ _ _ hm
  obtain ⟨z2, w2, yy2⟩ := open_flats (ks := [.i .i64]) Tryz.underlying51 (by kernel_rfl) (by kernel_rfl) (by decide) h2
  have y2 : len2 ≤ 140737488351232 := small_flats hsz (j := 2) (t := 51) rfl rfl Tryz.underlying51 (of_decide_eq_true (by kernel_rfl)) yy2
  clear hA0 hval0 hsz0 hsz
  refine (numRows.walk a0_0 a0_1 a0_2 a0_3 a0_4 a1 len1 cap1 z1 a2 len2 cap2 z2 W w0_1 w0_2 w0_3 w0_4 w1 y1 w2 y2 (gok_of_laid hL)).mono fun e W' ⟨he, bel⟩ => ?_
  subst he
  exact ⟨_, rfl, _, _, _, [], _, [], hW', trodAll_mk1 (shut_bool Tryz.underlying4 _), (trodAll_cons_mk (Below.trod laidOut (by kernel_rfl) (of_decide_eq_true (by kernel_rfl)) h0 bel lt0) (trodAll_cons_mk (Below.trod laidOut (by kernel_rfl) (of_decide_eq_true (by kernel_rfl)) k1_ bel lt1) (trodAll_cons_mk (Below.trod laidOut (by kernel_rfl) (of_decide_eq_true (by kernel_rfl)) k2_ bel lt2) trodAll_mk0))), rfl, bel.frame _, fun h => by cases h⟩
theorem over : Rows.NumRowsSaid :=
  OpenClaim.holds_of_wide 7 Tryz.f7 rfl rfl rfl rfl rfl rfl rfl ⟨rfl, rfl, rfl, rfl, rfl⟩ rfl rfl rfl rfl rfl (by kernel_rfl) Tryz.func7 (by kernel_rfl)
    (of_decide_eq_true (by kernel_rfl)) (by unfold Func.isWrapper; first | (rw [if_pos (by decide +kernel)]; kernel_rfl) | (rw [if_neg (by decide +kernel)]; exact ⟨rfl, rfl⟩))
    (fun os started H enc _ => lifted os started H enc)
theorem card : Rows.NumRowsCardSaid :=
  Claim7.holds_tied_plain_at .later [] [.data, .data, .data, .data, .data] true (true, "f676dd6e84a603e404f0cc4343bb332e961659a81497f21cacdba83058b1108a") false
    over (fun _ h => by cases h) (by kernel_rfl) (fun _ h => by cases h) numRows_row_tie rfl ⟨rfl, rfl⟩ (by kernel_rfl) rfl
    (fun f fn hf hfn => by
      obtain rfl : f = 7 := Option.some.inj ((show Tryz.prog.funcNamed "winnow/winnowlaw13.NumRows" = some 7 by kernel_rfl).symm.trans hf) |>.symm
      obtain rfl : fn = Tryz.f7 := (Option.some.inj (Tryz.func7.symm.trans hfn)).symm
      exact ⟨by kernel_rfl, fun j t ht => by
        rw [Tryz.params7] at ht
        have hm : t ∈ [28, 55, 51] := by simpa using Array.mem_of_getElem? ht
        have hall : ([28, 55, 51].all fun u => !Tryz.prog.wantsStandIn u) = true := by kernel_rfl
        exact (show Tryz.prog.wantsStandIn t = false by simpa using List.all_eq_true.1 hall t hm)⟩)
    (by kernel_rfl)
end Go.Proofs.YtonpbbhlmapbdaaGreatDoor.V.numRows
namespace Go.Proofs.YtonpbbhlmapbdaaGreatDoor
theorem numRows_holds : Rows.NumRowsCardSaid := V.numRows.card
#print axioms numRows_holds
end Go.Proofs.YtonpbbhlmapbdaaGreatDoor
