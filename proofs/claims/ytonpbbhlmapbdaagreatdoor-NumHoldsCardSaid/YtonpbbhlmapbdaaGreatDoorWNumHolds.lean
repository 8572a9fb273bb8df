/- NumHolds: the law function, evaluated round by round: it answers true. Conditions: none. -/
import Derived.Test.YtonpbbhlmapbdaaGreatDoorH1
import Derived.Test.YtonpbbhlmapbdaaGreatDoorE9
set_option linter.unusedVariables false
set_option linter.unusedSimpArgs false
namespace Go.Proofs.YtonpbbhlmapbdaaGreatDoor.V
open Go Go.Wk Go.RowKit

theorem app_at {a0 b0 : Bool} {a1 a2 a3 a4 b1 b2 b3 b4 op : Int} (h : Raw (a0, a1, a2, a3, a4)) (h' : Raw (b0, b1, b2, b3, b4)) (o : isOp op) {x : Nm} (e : applyS op (a0, a1, a2, a3, a4) (b0, b1, b2, b3, b4) = x) :
    num_Apply op a0 a1 a2 a3 a4 b0 b1 b2 b3 b4 = (x.1, x.2.1, x.2.2.1, x.2.2.2.1, x.2.2.2.2, 0) := by
  rw [num_Apply_s h h', if_pos o, e]; rfl
set_option maxRecDepth 100000 in
theorem holds_round {γ : Type} (k0 : Int × Int × Bool × Int × Int × Int × Int × Bool × Int × Int × Int × Int × Int × Int × Bool × Int × Int × Int × Int × Bool × Int × Int × Int × Int × Int × Int × Int × Int × Int × Int → Option γ) (k : Bool → Option γ) {op j : Int} (hop : isOp op) (h0 : 0 ≤ j) (h1 : j < 6)
    (he : [(1 : Int), 3, 4, 5, 6, 7].getD (0 + j.toNat * P.types[34].size) 0 = op) (hl : (0 + j.toNat * P.types[34].size).blt 6 = true)
    {a0 b0 : Bool} {a1 a2 a3 a4 b1 b2 b3 b4 x y : Int} (ha : Raw (a0, a1, a2, a3, a4)) (hb : Raw (b0, b1, b2, b3, b4)) (hx : I64 x) (hy : I64 y) {X Y : Nm} (eX : normS (a0, a1, a2, a3, a4) = X) (eY : normS (b0, b1, b2, b3, b4) = Y) :
    law_NumHolds.l0.c k0 k 6 j a0 a1 a2 a3 a4 b0 b1 b2 b3 b4 x y X.1 X.2.1 X.2.2.1 X.2.2.2.1 X.2.2.2.2 Y.1 Y.2.1 Y.2.2.1 Y.2.2.2.1 Y.2.2.2.2 1 3 4 5 6 7 =
      k0 (6, IntKind.i64.wrap (j + 1), a0, a1, a2, a3, a4, b0, b1, b2, b3, b4, x, y, X.1, X.2.1, X.2.2.1, X.2.2.2.1, X.2.2.2.2, Y.1, Y.2.1, Y.2.2.1, Y.2.2.2.1, Y.2.2.2.2, 1, 3, 4, 5, 6, 7) := by
  subst eX eY
  unfold law_NumHolds.l0.c law_NumHolds.l0.c0
  have nX := norm_nf ha
  have nY := norm_nf hb
  have iX := fun w (hw : I64 w) => norm_in ha hw
  have iY := fun w (hw : I64 w) => norm_in hb hw
  have t1 := @apply_bot op (a0, a1, a2, a3, a4) (b0, b1, b2, b3, b4)
  have j1 := fun u w => @apply_in op (a0, a1, a2, a3, a4) (b0, b1, b2, b3, b4) ha hb hop u w
  have n1 := apply_nf (op := op) ha hb hop
  have c1 : decide (0 ≤ j) = true := decide_eq_true h0
  have c3 : ((6 : Nat) : Int) = 6 := rfl
  have c2 : decide (j < 6) = true := decide_eq_true h1
  simp only [he, app_at ha hb hop rfl]
  simp only [num_Apply_ok (op := op) ha hb, c1, c2, hl, List.length_cons, List.length_nil, Nat.reduceAdd, c3, Bool.and_self, cond_true]
  generalize applyS op (a0, a1, a2, a3, a4) (b0, b1, b2, b3, b4) = G1 at *
  generalize normS (a0, a1, a2, a3, a4) = X at *
  generalize normS (b0, b1, b2, b3, b4) = Y at *
  simp only [normal_ok n1, normal_s n1, bne_self_eq_false, cond_true, cond_false, Bool.not_true, Bool.not_false, Bool.and_true, Bool.true_and, Bool.or_true, Bool.true_or, Bool.or_false, Bool.false_or]
  by_cases hX : X.1 = true
  · rw [t1 (.inl hX), hX]
    simp [botS]
  have hX : X.1 = false := by simpa using hX
  by_cases hY : Y.1 = true
  · by_cases ho : op = 1
    · subst ho
      rw [hX, hY]
      simp
    · rw [t1 (.inr ⟨hY, ho⟩), hX, hY]
      simp [botS]
  have hY : Y.1 = false := by simpa using hY
  have rX : Raw (X.1, X.2.1, X.2.2.1, X.2.2.2.1, X.2.2.2.2) := nX.raw
  have rY : Raw (Y.1, Y.2.1, Y.2.2.1, Y.2.2.2.1, Y.2.2.2.2) := nY.raw
  have ou := some_ok (a0 := X.1) (a1 := X.2.1) (a2 := X.2.2.1) (a3 := X.2.2.2.1) (a4 := X.2.2.2.2) nX hx
  have ow := some_ok (a0 := Y.1) (a1 := Y.2.1) (a2 := Y.2.2.1) (a3 := Y.2.2.2.1) (a4 := Y.2.2.2.2) nY hy
  have hu := some_in (a0 := X.1) (a1 := X.2.1) (a2 := X.2.2.1) (a3 := X.2.2.2.1) (a4 := X.2.2.2.2) nX hx
  have hw := some_in (a0 := Y.1) (a1 := Y.2.1) (a2 := Y.2.2.1) (a3 := Y.2.2.2.1) (a4 := Y.2.2.2.2) nY hy
  simp only [ou, ow]
  generalize law_some X.1 X.2.1 X.2.2.1 X.2.2.2.1 X.2.2.2.2 x = u at *
  generalize law_some Y.1 Y.2.1 Y.2.2.1 Y.2.2.2.1 Y.2.2.2.2 y = w at *
  obtain ⟨uI, ui⟩ := hu
  obtain ⟨wI, wi⟩ := hw
  have ui := ui hX
  have wi := wi hY
  have uA := (iX u uI).1 ui
  have wB := (iY w wI).1 wi
  have eu : decide (In (X.1, X.2.1, X.2.2.1, X.2.2.2.1, X.2.2.2.2) u) = true := decide_eq_true ui
  have ew : decide (In (Y.1, Y.2.1, Y.2.2.1, Y.2.2.2.1, Y.2.2.2.2) w) = true := decide_eq_true wi
  have ru : Raw ((constS u).1, (constS u).2.1, (constS u).2.2.1, (constS u).2.2.2.1, (constS u).2.2.2.2) := raw_const uI
  have rw_ : Raw ((constS w).1, (constS w).2.1, (constS w).2.2.1, (constS w).2.2.2.1, (constS w).2.2.2.2) := raw_const wI
  have R1 : Raw (G1.1, G1.2.1, G1.2.2.1, G1.2.2.2.1, G1.2.2.2.2) := n1.raw
  simp only [num_Const_s uI, num_Const_s wI, num_Apply_ok (op := op) ru rw_, inside_ok rX uI, inside_s rX uI, inside_ok rY wI, inside_s rY wI, eu, ew, done_ok (x := u) (y := w) hop, done_s (x := u) (y := w) hop]
  by_cases hz : (op = 6 ∨ op = 7) ∧ w = 0
  · have d1 : doneS op u w = (0, false) := if_pos hz
    have p1 := app_at ru rw_ hop ((apply_one uI wI hop).trans (if_pos hz))
    simp only [d1, p1, hX, hY]
    simp [botS]
  · have d1 : doneS op u w = (resS op u w, true) := if_neg hz
    have i1 := resS_I (op := op) (y := w) uI
    have m1 : decide (In (G1.1, G1.2.1, G1.2.2.1, G1.2.2.2.1, G1.2.2.2.2) (resS op u w)) = true := decide_eq_true (j1 u w uI wI uA (fun _ => wB) (fun q e => hz ⟨q, e⟩))
    have p1 := app_at ru rw_ hop ((apply_one uI wI hop).trans (if_neg hz))
    simp only [d1, p1, inside_ok R1 i1, inside_s R1 i1, m1, num_Const_s i1, hX, hY]
    simp [constS]
set_option maxRecDepth 100000 in
theorem holds_o {a0 b0 : Bool} {a1 a2 a3 a4 b1 b2 b3 b4 x y : Int} (ha : Raw (a0, a1, a2, a3, a4)) (hb : Raw (b0, b1, b2, b3, b4)) (hx : I64 x) (hy : I64 y) : law_NumHolds.o 8 a0 a1 a2 a3 a4 b0 b1 b2 b3 b4 x y = some true := by
  unfold law_NumHolds.o law_NumHolds.c law_NumHolds.c0
  have nX := norm_nf ha
  have nY := norm_nf hb
  have nX' : NF ((normS (a0, a1, a2, a3, a4)).1, (normS (a0, a1, a2, a3, a4)).2.1, (normS (a0, a1, a2, a3, a4)).2.2.1, (normS (a0, a1, a2, a3, a4)).2.2.2.1, (normS (a0, a1, a2, a3, a4)).2.2.2.2) := nX
  have nY' : NF ((normS (b0, b1, b2, b3, b4)).1, (normS (b0, b1, b2, b3, b4)).2.1, (normS (b0, b1, b2, b3, b4)).2.2.1, (normS (b0, b1, b2, b3, b4)).2.2.2.1, (normS (b0, b1, b2, b3, b4)).2.2.2.2) := nY
  simp only [works_ok, works_s, num_Norm_s ha, num_Norm_s hb, normal_ok nX', normal_s nX', normal_ok nY', normal_s nY', cond_true, cond_false, Bool.not_true, Bool.not_false, Bool.and_true, Bool.true_and, Bool.or_true, Bool.true_or, Bool.or_false, Bool.false_or]
  have w1 : IntKind.i64.wrap (0 + 1) = 1 := by decide
  have w2 : IntKind.i64.wrap (1 + 1) = 2 := by decide
  have w3 : IntKind.i64.wrap (2 + 1) = 3 := by decide
  have w4 : IntKind.i64.wrap (3 + 1) = 4 := by decide
  have w5 : IntKind.i64.wrap (4 + 1) = 5 := by decide
  have w6 : IntKind.i64.wrap (5 + 1) = 6 := by decide
  refine (holds_round (op := 1) (j := 0) (law_NumHolds.L0 8 7) some (by decide) (by decide) (by decide) (by kernel_rfl) (by kernel_rfl) ha hb hx hy rfl rfl).trans ?_
  rw [w1]
  refine (holds_round (op := 3) (j := 1) (law_NumHolds.L0 8 6) some (by decide) (by decide) (by decide) (by kernel_rfl) (by kernel_rfl) ha hb hx hy rfl rfl).trans ?_
  rw [w2]
  refine (holds_round (op := 4) (j := 2) (law_NumHolds.L0 8 5) some (by decide) (by decide) (by decide) (by kernel_rfl) (by kernel_rfl) ha hb hx hy rfl rfl).trans ?_
  rw [w3]
  refine (holds_round (op := 5) (j := 3) (law_NumHolds.L0 8 4) some (by decide) (by decide) (by decide) (by kernel_rfl) (by kernel_rfl) ha hb hx hy rfl rfl).trans ?_
  rw [w4]
  refine (holds_round (op := 6) (j := 4) (law_NumHolds.L0 8 3) some (by decide) (by decide) (by decide) (by kernel_rfl) (by kernel_rfl) ha hb hx hy rfl rfl).trans ?_
  rw [w5]
  refine (holds_round (op := 7) (j := 5) (law_NumHolds.L0 8 2) some (by decide) (by decide) (by decide) (by kernel_rfl) (by kernel_rfl) ha hb hx hy rfl rfl).trans ?_
  rw [w6]
  rfl
theorem numHolds.walk (a0 : Bool) (a1 a2 a3 a4 : Int) (b0 : Bool) (b1 b2 b3 b4 x y : Int) (W : World) (h1 : (Lit.int .i64 a1).wf = true) (h2 : (Lit.int .i64 a2).wf = true) (h3 : (Lit.int .u64 a3).wf = true) (h4 : (Lit.int .u64 a4).wf = true) (g1 : (Lit.int .i64 b1).wf = true) (g2 : (Lit.int .i64 b2).wf = true) (g3 : (Lit.int .u64 b3).wf = true) (g4 : (Lit.int .u64 b4).wf = true) (h5 : (Lit.int .i64 x).wf = true) (h6 : (Lit.int .i64 y).wf = true) (hG : GOK G W) :
    Calls Tryz.prog 3 #[.agg #[.bool a0, .int .i64 a1, .int .i64 a2, .int .u64 a3, .int .u64 a4, .bool b0, .int .i64 b1, .int .i64 b2, .int .u64 b3, .int .u64 b4, .int .i64 x, .int .i64 y]] W fun e w' => e = .returned (.bool true) ∧ Below W.heap.size W w' := by
  refine runF_calls' C.mixed C.names law_done.t (H := law_NumHolds.H (law_NumHolds.S0 8)) (d := 60) (LoopsOK_body (law_NumHolds.lok 8)) Tryz.func3 hG (gok_lt C hG) (vs := [.agg #[.bool a0, .int .i64 a1, .int .i64 a2, .int .u64 a3, .int .u64 a4, .bool b0, .int .i64 b1, .int .i64 b2, .int .u64 b3, .int .u64 b4, .int .i64 x, .int .i64 y]]) ?_
  rw [law_NumHolds.q, holds_o (raw5 (i64_wf h1) (i64_wf h2) (u64_wf h3) (u64_wf h4)) (raw5 (i64_wf g1) (i64_wf g2) (u64_wf g3) (u64_wf g4)) (i64_wf h5) (i64_wf h6)]
  rfl
end Go.Proofs.YtonpbbhlmapbdaaGreatDoor.V
