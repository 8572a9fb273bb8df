/- IvalWidens: every Widen answers as the document says; the thresholds stay, and, written over where they lie, are asked again; rows of widenings hold what they must and change but few times. Conditions: none. -/
import Derived.Test.YtbbplkdjcgdaaaaDoorR
import Derived.Test.YtbbplkdjcgdaaaaDoorWIvalWidens
set_option linter.unusedVariables false
set_option linter.unusedSimpArgs false
namespace Go.Proofs.YtbbplkdjcgdaaaaDoor.V.ivalWidens
open Go Go.Wk Go.ChangeShapes Go.WideShapes Go.ChangeAt Go.RowKit
open Go.ChangeMaps (open_string shut_string)
set_option maxRecDepth 100000 in
theorem lifted (os : Os) (started : os.Started) (H : Type) (enc : TypeId × Value → H) :
    ReturnsInHanded {} Tryd.checked os 3 .any (fun w args => (Rows.ivalWidensSpec.pre enc Tryd.prog Tryd.f3 [] false w args ∧ laidMetH Tryd.prog laidL w) ∧ sizedMet enc Tryd.prog Tryd.f3 (OpenSpec.ofChange Rows.ivalWidensSpec) false w args)
      (Rows.ivalWidensSpec.post enc Tryd.prog Tryd.f3 false true false false) := by
  refine returnsInHanded_of_change_and (C := Tryd.checked) (X := fun w _ => laidMetH Tryd.prog laidL w) (fun _ _ _ hh h => h.of_heap hh) own started (by kernel_rfl) Tryd.func3
    (ChangeSpec.witness_shaped (enc := enc) (C := Tryd.checked) (os := os) (X := fun w _ => laidMetH Tryd.prog laidL w) false (World.doorLaid Tryd.prog 400 os) #[.agg #[.int .i64 0, .int .i64 0], .slice none 0 0, .slice none 0 0] 8 rfl (World.shaped_of_RefB (by kernel_rfl) (by kernel_rfl)) (by kernel_rfl) (by kernel_rfl) (by kernel_rfl) (door_met os _)) ?_
  intro W base args ds gs before hval0 hW _ hsz0 hL _
  have hsz : (DataW.weightsEach Tryd.prog (Tryd.f3.params.toList ++ Rows.ivalWidensSpec.plain.varTypes Tryd.prog) (ds ++ gs)).all (· ≤ reachBytes) = true := hsz0
  have hval : ∀ (j : Nat) t v, Tryd.f3.params[j]? = some t → args[j]? = some v → Value.okWide Tryd.prog W .any base t v := hval0
  have hW' := hW
  obtain ⟨p, q, hA0, hV, rfl, hfz, hnd⟩ := hW
  have hA : DataW.TrodAll enc Tryd.prog W 0 (fun _ => true) true Tryd.f3.params.toList args.toList ds p := hA0
  rw [Tryd.params3] at hA hval hsz
  obtain ⟨v0, vs0, d0, ds0, p0, q0, hargs, rfl, rfl, h0, r0⟩ := trodAll_cons hA
  obtain ⟨v1, vs1, d1, ds1, p1, q1, rfl, rfl, rfl, h1, r1⟩ := trodAll_cons r0
  obtain ⟨v2, vs2, d2, ds2, p2, q2, rfl, rfl, rfl, h2, r2⟩ := trodAll_cons r1
  obtain ⟨rfl, rfl, rfl⟩ := trodAll_nil r2
  obtain rfl : args = #[v0, v1, v2] := by cases args; simp_all
  obtain ⟨rfl, rfl⟩ := trodVars_none hV
  obtain ⟨e0, F0, hp0⟩ := open_flat Tryd.underlying23 k23 (hval 0 23 v0 rfl rfl) h0
  obtain ⟨a0_0, l0_0, el0_0, w0_0, G0_0⟩ := AllF_i F0
  obtain ⟨a0_1, l0_1, el0_1, w0_1, G0_1⟩ := AllF_i G0_0
  have en0 := AllF_nil G0_1
  rw [el0_0, el0_1, en0] at e0
  subst e0
  have lt0 : ∀ x ∈ p0, x.block < W.heap.size := by rw [hp0]; intro x hx; cases hx
  obtain ⟨a1, len1, cap1, rfl⟩ := okWide_slice Tryd.underlying24 (hval 1 24 v1 rfl rfl)
  have k1_ := h1
  have lt1 : ∀ x ∈ p1, x.block < W.heap.size := by obtain ⟨m, hm⟩ := k1_; exact DataW.trod_lt m _ _ _ hm
  obtain ⟨z1, w1, yy1⟩ := open_flats (ks := [.i .i64]) Tryd.underlying24 (by kernel_rfl) (by kernel_rfl) (by decide) h1
  have y1 : len1 * 8 ≤ 140737488351232 := bytes_flats hsz (j := 1) (t := 24) rfl rfl Tryd.underlying24 8 (by kernel_rfl) yy1
  have n1 : a1 = none → cap1 = 0 := nil_flats Tryd.underlying24 k1_
  obtain ⟨a2, len2, cap2, rfl⟩ := okWide_slice Tryd.underlying25 (hval 2 25 v2 rfl rfl)
  have k2_ := h2
  have lt2 : ∀ x ∈ p2, x.block < W.heap.size := by obtain ⟨m, hm⟩ := k2_; exact DataW.trod_lt m _ _ _ hm
  obtain ⟨z2, w2, yy2⟩ := open_flats (ks := [.i .i64, .i .i64]) Tryd.underlying25 (by kernel_rfl) (by kernel_rfl) (by decide) h2
  have y2 : len2 ≤ 140737488351232 := small_flats hsz (j := 2) (t := 25) rfl rfl Tryd.underlying25 (of_decide_eq_true (by kernel_rfl)) yy2
  clear hA0 hval0 hsz0 hsz
  refine (ivalWidens.walk a0_0 a0_1 a1 len1 cap1 z1 a2 len2 cap2 z2 W w0_0 w0_1 w1 y1 n1 w2 y2 (gok_of_laid hL)).mono fun e W' ⟨he, bel⟩ => ?_
  subst he
  exact ⟨_, rfl, _, _, _, [], _, [], hW', trodAll_mk1 (shut_bool Tryd.underlying4 _), (trodAll_cons_mk (Below.trod laidOut (by kernel_rfl) (of_decide_eq_true (by kernel_rfl)) h0 bel lt0) (trodAll_cons_mk (Below.trod laidOut (by kernel_rfl) (of_decide_eq_true (by kernel_rfl)) k1_ bel lt1) (trodAll_cons_mk (Below.trod laidOut (by kernel_rfl) (of_decide_eq_true (by kernel_rfl)) k2_ bel lt2) trodAll_mk0))), rfl, bel.frame _, fun h => by cases h⟩
theorem over : Rows.IvalWidensSaid :=
  OpenClaim.holds_of_wide 3 Tryd.f3 rfl rfl rfl rfl rfl rfl rfl ⟨rfl, rfl, rfl, rfl, rfl⟩ rfl rfl rfl rfl rfl (by kernel_rfl) Tryd.func3 (by kernel_rfl)
    (of_decide_eq_true (by kernel_rfl)) (by unfold Func.isWrapper; first | (rw [if_pos (by decide +kernel)]; kernel_rfl) | (rw [if_neg (by decide +kernel)]; exact ⟨rfl, rfl⟩))
    (fun os started H enc _ => lifted os started H enc)
theorem card : Rows.IvalWidensCardSaid :=
  Claim7.holds_tied_plain_at .later [] [.data, .data] true (true, "35a955de9f08f4b611f0259ff061ec8323d06e30d1af693f66a6f1d304f096c6") false
    over (fun _ h => by cases h) (by kernel_rfl) (fun _ h => by cases h) ivalWidens_row_tie rfl ⟨rfl, rfl⟩ (by kernel_rfl) rfl
    (fun f fn hf hfn => by
      obtain rfl : f = 3 := Option.some.inj ((show Tryd.prog.funcNamed "winnow/winnowlaw11.IvalWidens" = some 3 by kernel_rfl).symm.trans hf) |>.symm
      obtain rfl : fn = Tryd.f3 := (Option.some.inj (Tryd.func3.symm.trans hfn)).symm
      exact ⟨by kernel_rfl, fun j t ht => by
        rw [Tryd.params3] at ht
        have hm : t ∈ [23, 24, 25] := by simpa using Array.mem_of_getElem? ht
        have hall : ([23, 24, 25].all fun u => !Tryd.prog.wantsStandIn u) = true := by kernel_rfl
        exact (show Tryd.prog.wantsStandIn t = false by simpa using List.all_eq_true.1 hall t hm)⟩)
    (by kernel_rfl)
end Go.Proofs.YtbbplkdjcgdaaaaDoor.V.ivalWidens
namespace Go.Proofs.YtbbplkdjcgdaaaaDoor
theorem ivalWidens_holds : Rows.IvalWidensCardSaid := V.ivalWidens.card
#print axioms ivalWidens_holds
end Go.Proofs.YtbbplkdjcgdaaaaDoor
