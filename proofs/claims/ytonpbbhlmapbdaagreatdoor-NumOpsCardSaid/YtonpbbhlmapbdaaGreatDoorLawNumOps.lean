/- NumOps: every Apply and every Widen answers as the document says; the thresholds stay. Conditions: none. -/
import Derived.Test.YtonpbbhlmapbdaaGreatDoorR
import Derived.Test.YtonpbbhlmapbdaaGreatDoorWNumOps
set_option linter.unusedVariables false
set_option linter.unusedSimpArgs false
namespace Go.Proofs.YtonpbbhlmapbdaaGreatDoor.V.numOps
open Go Go.Wk Go.ChangeShapes Go.WideShapes Go.ChangeAt Go.RowKit
open Go.ChangeMaps (open_string shut_string)
set_option maxRecDepth 100000 in
theorem lifted (os : Os) (started : os.Started) (H : Type) (enc : TypeId × Value → H) :
    ReturnsInHanded {} Tryz.checked os 6 .any (fun w args => (Rows.numOpsSpec.pre enc Tryz.prog Tryz.f6 [] false w args ∧ laidMetH Tryz.prog laidL w) ∧ sizedMet enc Tryz.prog Tryz.f6 (OpenSpec.ofChange Rows.numOpsSpec) false w args)
      (Rows.numOpsSpec.post enc Tryz.prog Tryz.f6 false true false false) := by
  refine returnsInHanded_of_change_and (C := Tryz.checked) (X := fun w _ => laidMetH Tryz.prog laidL w) (fun _ _ _ hh h => h.of_heap hh) own started (by kernel_rfl) Tryz.func6
    (ChangeSpec.witness_shaped (enc := enc) (C := Tryz.checked) (os := os) (X := fun w _ => laidMetH Tryz.prog laidL w) false (World.doorLaid Tryz.prog 400 os) #[.int .i64 0, .agg #[.bool false, .int .i64 0, .int .i64 0, .int .u64 0, .int .u64 0], .agg #[.bool false, .int .i64 0, .int .i64 0, .int .u64 0, .int .u64 0], .slice none 0 0] 8 rfl (World.shaped_of_RefB (by kernel_rfl) (by kernel_rfl)) (by kernel_rfl) (by kernel_rfl) (by kernel_rfl) (door_met os _)) ?_
  intro W base args ds gs before hval0 hW _ hsz0 hL _
  have hsz : (DataW.weightsEach Tryz.prog (Tryz.f6.params.toList ++ Rows.numOpsSpec.plain.varTypes Tryz.prog) (ds ++ gs)).all (· ≤ reachBytes) = true := hsz0
  have hval : ∀ (j : Nat) t v, Tryz.f6.params[j]? = some t → args[j]? = some v → Value.okWide Tryz.prog W .any base t v := hval0
  have hW' := hW
  obtain ⟨p, q, hA0, hV, rfl, hfz, hnd⟩ := hW
  have hA : DataW.TrodAll enc Tryz.prog W 0 (fun _ => true) true Tryz.f6.params.toList args.toList ds p := hA0
  rw [Tryz.params6] at hA hval hsz
  obtain ⟨v0, vs0, d0, ds0, p0, q0, hargs, rfl, rfl, h0, r0⟩ := trodAll_cons hA
  obtain ⟨v1, vs1, d1, ds1, p1, q1, rfl, rfl, rfl, h1, r1⟩ := trodAll_cons r0
  obtain ⟨v2, vs2, d2, ds2, p2, q2, rfl, rfl, rfl, h2, r2⟩ := trodAll_cons r1
  obtain ⟨v3, vs3, d3, ds3, p3, q3, rfl, rfl, rfl, h3, r3⟩ := trodAll_cons r2
  obtain ⟨rfl, rfl, rfl⟩ := trodAll_nil r3
  obtain rfl : args = #[v0, v1, v2, v3] := by cases args; simp_all
  obtain ⟨rfl, rfl⟩ := trodVars_none hV
  obtain ⟨a0, rfl, rfl, rfl, w0⟩ := open_int Tryz.underlying34 (hval 0 34 v0 rfl rfl) h0
  obtain ⟨e1, F1, hp1⟩ := open_flat Tryz.underlying28 k28 (hval 1 28 v1 rfl rfl) h1
  obtain ⟨a1_0, l1_0, el1_0, G1_0⟩ := AllF_b F1
  obtain ⟨a1_1, l1_1, el1_1, w1_1, G1_1⟩ := AllF_i G1_0
  obtain ⟨a1_2, l1_2, el1_2, w1_2, G1_2⟩ := AllF_i G1_1
  obtain ⟨a1_3, l1_3, el1_3, w1_3, G1_3⟩ := AllF_i G1_2
  obtain ⟨a1_4, l1_4, el1_4, w1_4, G1_4⟩ := AllF_i G1_3
  have en1 := AllF_nil G1_4
  rw [el1_0, el1_1, el1_2, el1_3, el1_4, en1] at e1
  subst e1
  have lt1 : ∀ x ∈ p1, x.block < W.heap.size := by rw [hp1]; intro x hx; cases hx
  obtain ⟨e2, F2, hp2⟩ := open_flat Tryz.underlying28 k28 (hval 2 28 v2 rfl rfl) h2
  obtain ⟨a2_0, l2_0, el2_0, G2_0⟩ := AllF_b F2
  obtain ⟨a2_1, l2_1, el2_1, w2_1, G2_1⟩ := AllF_i G2_0
  obtain ⟨a2_2, l2_2, el2_2, w2_2, G2_2⟩ := AllF_i G2_1
  obtain ⟨a2_3, l2_3, el2_3, w2_3, G2_3⟩ := AllF_i G2_2
  obtain ⟨a2_4, l2_4, el2_4, w2_4, G2_4⟩ := AllF_i G2_3
  have en2 := AllF_nil G2_4
  rw [el2_0, el2_1, el2_2, el2_3, el2_4, en2] at e2
  subst e2
  have lt2 : ∀ x ∈ p2, x.block < W.heap.size := by rw [hp2]; intro x hx; cases hx
  obtain ⟨a3, len3, cap3, rfl⟩ := okWide_slice Tryz.underlying51 (hval 3 51 v3 rfl rfl)
  have k3_ := h3
  have lt3 : ∀ x ∈ p3, x.block < W.heap.size := by obtain ⟨m, hm⟩ := k3_; exact DataW.trod_lt m _ _ _ hm
  obtain ⟨z3, w3, yy3⟩ := open_flats (ks := [.i .i64]) Tryz.underlying51 (by kernel_rfl) (by kernel_rfl) (by decide) h3
  have y3 : len3 * 8 ≤ 140737488351232 := bytes_flats hsz (j := 3) (t := 51) rfl rfl Tryz.underlying51 8 (by kernel_rfl) yy3
  have n3 : a3 = none → cap3 = 0 := nil_flats Tryz.underlying51 k3_
  clear hA0 hval0 hsz0 hsz
  refine (numOps.walk a0 a1_0 a1_1 a1_2 a1_3 a1_4 a2_0 a2_1 a2_2 a2_3 a2_4 a3 len3 cap3 z3 W w0 w1_1 w1_2 w1_3 w1_4 w2_1 w2_2 w2_3 w2_4 w3 y3 n3 (gok_of_laid hL)).mono fun e W' ⟨he, bel⟩ => ?_
  subst he
  exact ⟨_, rfl, _, _, _, [], _, [], hW', trodAll_mk1 (shut_bool Tryz.underlying4 _), (trodAll_cons_mk (shut_int Tryz.underlying34 w0) (trodAll_cons_mk (Below.trod laidOut (by kernel_rfl) (of_decide_eq_true (by kernel_rfl)) h1 bel lt1) (trodAll_cons_mk (Below.trod laidOut (by kernel_rfl) (of_decide_eq_true (by kernel_rfl)) h2 bel lt2) (trodAll_cons_mk (Below.trod laidOut (by kernel_rfl) (of_decide_eq_true (by kernel_rfl)) k3_ bel lt3) trodAll_mk0)))), rfl, bel.frame _, fun h => by cases h⟩
theorem over : Rows.NumOpsSaid :=
  OpenClaim.holds_of_wide 6 Tryz.f6 rfl rfl rfl rfl rfl rfl rfl ⟨rfl, rfl, rfl, rfl, rfl⟩ rfl rfl rfl rfl rfl (by kernel_rfl) Tryz.func6 (by kernel_rfl)
    (of_decide_eq_true (by kernel_rfl)) (by unfold Func.isWrapper; first | (rw [if_pos (by decide +kernel)]; kernel_rfl) | (rw [if_neg (by decide +kernel)]; exact ⟨rfl, rfl⟩))
    (fun os started H enc _ => lifted os started H enc)
theorem card : Rows.NumOpsCardSaid :=
  Claim7.holds_tied_plain_at .later [] [.data, .data, .data, .data, .data] true (true, "f676dd6e84a603e404f0cc4343bb332e961659a81497f21cacdba83058b1108a") false
    over (fun _ h => by cases h) (by kernel_rfl) (fun _ h => by cases h) numOps_row_tie rfl ⟨rfl, rfl⟩ (by kernel_rfl) rfl
    (fun f fn hf hfn => by
      obtain rfl : f = 6 := Option.some.inj ((show Tryz.prog.funcNamed "winnow/winnowlaw13.NumOps" = some 6 by kernel_rfl).symm.trans hf) |>.symm
      obtain rfl : fn = Tryz.f6 := (Option.some.inj (Tryz.func6.symm.trans hfn)).symm
      exact ⟨by kernel_rfl, fun j t ht => by
        rw [Tryz.params6] at ht
        have hm : t ∈ [34, 28, 28, 51] := by simpa using Array.mem_of_getElem? ht
        have hall : ([34, 28, 28, 51].all fun u => !Tryz.prog.wantsStandIn u) = true := by kernel_rfl
        exact (show Tryz.prog.wantsStandIn t = false by simpa using List.all_eq_true.1 hall t hm)⟩)
    (by kernel_rfl)
end Go.Proofs.YtonpbbhlmapbdaaGreatDoor.V.numOps
namespace Go.Proofs.YtonpbbhlmapbdaaGreatDoor
theorem numOps_holds : Rows.NumOpsCardSaid := V.numOps.card
#print axioms numOps_holds
end Go.Proofs.YtonpbbhlmapbdaaGreatDoor
