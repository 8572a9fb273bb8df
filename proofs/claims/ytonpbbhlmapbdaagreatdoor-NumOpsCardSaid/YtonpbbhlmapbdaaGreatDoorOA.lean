/- Parts: V13, O0, RS, O2, P13, P26. Conditions: none. -/
import Derived.Test.YtonpbbhlmapbdaaGreatDoorV12
import Derived.WideShapes
import Derived.OwnWalk
import Derived.ArgAppend
import Derived.Test.YtonpbbhlmapbdaaGreatDoorVA
import Derived.Test.YtonpbbhlmapbdaaGreatDoorJA
set_option linter.unusedVariables false
set_option linter.unusedSimpArgs false
namespace Go.Proofs.YtonpbbhlmapbdaaGreatDoor.V
open Go Go.Wk Go.RowKit
theorem widj_eq {a0 a1 b0 b1 : Int} {zs : List Int} (h : a0 ≤ a1) (h' : b0 ≤ b1) : widj a0 a1 b0 b1 zs = wid a0 a1 b0 b1 zs := by
  unfold widj wid
  rw [widenJ_main h h', widenI_main h h']
theorem nwid2_v {γ : Type} (n : γ) (k : Nm → γ) {G0 : Glob} {thr : Value} {zs : List Int} {a0 b0 : Bool} {a1 a2 a3 a4 b1 b2 b3 b4 : Int} (h : Raw (a0, a1, a2, a3, a4)) (h' : Raw (b0, b1, b2, b3, b4)) :
    nwid2.c n k G0 thr zs a0 a1 a2 a3 a4 b0 b1 b2 b3 b4 = k (widN (normS (a0, a1, a2, a3, a4)) (normS (b0, b1, b2, b3, b4)) zs) := by
  unfold nwid2.c nwid2.c0
  simp only [nref_Norm_s h, nref_Norm_s h', nref_Norm_ok h, nref_Norm_ok h', eqV_self, cond_true]
  have nX := norm_nf h
  have nY := norm_nf h'
  generalize normS (a0, a1, a2, a3, a4) = X at *
  generalize normS (b0, b1, b2, b3, b4) = Y at *
  unfold widN
  by_cases hx : X.1 = true
  · rw [if_pos hx, hx]; rfl
  have hx' : X.1 = false := by simpa using hx
  rw [if_neg hx, hx']
  by_cases hy : Y.1 = true
  · rw [if_pos hy, hy]
    exact congrArg k (show (false, X.2) = X from Prod.ext hx'.symm rfl)
  have hy' : Y.1 = false := by simpa using hy
  rw [if_neg hy, hy']
  have rX := nX.raw
  have rY := nY.raw
  have zX := nX.nz hx'
  have zY := nY.nz hy'
  have w := wid_ends (zs := zs) rX.l rX.h rY.l rY.h zX.le zY.le
  simp only [B.leq2_ok rY.m rY.r rX.m rX.r, B.leq2_s rY.m rY.r rX.m rX.r, cond_true, cond_false, widj_eq zX.le zY.le]
  cases hc : B.leqS Y.2.2.2.1 Y.2.2.2.2 X.2.2.2.1 X.2.2.2.2 with
  | true =>
    simp only [cond_true, nref_Make_ok w.Il w.Ih rX.m rX.r, nref_Make_s w.Il w.Ih rX.m rX.r, cond_false]
    rfl
  | false =>
    simp only [cond_true, cond_false, nref_Make_ok w.Il w.Ih U1 U0, nref_Make_s w.Il w.Ih U1 U0]
    rfl
theorem nwid2_walk {W : World} (hG : GOK G W) {a : Option Addr} {cap : Nat} {zs : List Int} (hz : Thr W a zs) {x y : Nm} (hx : Raw x) (hy : Raw y) :
    Calls P 43 #[.agg #[.bool x.1, .int .i64 x.2.1, .int .i64 x.2.2.1, .int .u64 x.2.2.2.1, .int .u64 x.2.2.2.2], .agg #[.bool y.1, .int .i64 y.2.1, .int .i64 y.2.2.1, .int .u64 y.2.2.2.1, .int .u64 y.2.2.2.2], .slice a zs.length cap] W
      fun e w' => e = .returned (.agg #[.bool (widN (normS x) (normS y) zs).1, .int .i64 (widN (normS x) (normS y) zs).2.1, .int .i64 (widN (normS x) (normS y) zs).2.2.1, .int .u64 (widN (normS x) (normS y) zs).2.2.2.1, .int .u64 (widN (normS x) (normS y) zs).2.2.2.2]) ∧ Below W.heap.size W w' := by
  obtain ⟨G', hK, hG'⟩ := kept_of hG hz
  obtain ⟨a0, a1, a2, a3, a4⟩ := x
  obtain ⟨b0, b1, b2, b3, b4⟩ := y
  refine runF_calls' hK.cx.mixed hK.cx.names (L_widj.t (cap := cap) hK) (H := { merge := true, glue := true }) (d := 60) (fun c _ => LoopsOK_nil c) Tryz.func43 hG' (gok_lt hK.cx hG') (vs := [.agg #[.bool a0, .int .i64 a1, .int .i64 a2, .int .u64 a3, .int .u64 a4], .agg #[.bool b0, .int .i64 b1, .int .i64 b2, .int .u64 b3, .int .u64 b4], .slice a zs.length cap]) ?_
  rw [nwid2.r, nwid2_v _ _ hx hy]
theorem allocB (w : World) (o : Obj) : Below w.heap.size w (w.alloc o) := (Below.refl _ _).alloc (Nat.le_refl _) o
theorem grown_keep {w w' : World} {row : Option Nat} {n : Nat} (h : w.grownBy w' row) (hn : n ≤ w.heap.size) (hr : ∀ k, row = some k → n ≤ k) : Below n w w' :=
  ⟨h.os, h.tape, h.output, h.size, fun k hk => h.block k (by omega) (fun e => by have := hr k e.symm; omega)⟩
def vals (zs : List Int) : List Value := zs.map (.int .i64)
/-- two boxes, and the copy with one number behind it -/
structure OA (W w : World) (x y : Nm) (g cap : Nat) (ys : List Int) : Prop where
  bel : Below W.heap.size W w
  rA : w.heap[W.heap.size]? = some (.cells (ncs x) 28 (0, 0))
  rB : w.heap[W.heap.size + 1]? = some (.cells (ncs y) 28 (0, 0))
  lo : W.heap.size + 1 < g
  hi : g < w.heap.size
  row : ∃ cur : Array Value, w.heap[g]? = some (.cells cur 2 (0, 0)) ∧ cur.size = cap ∧ cur.toList.take (ys.length + 1) = vals ys ++ [.int .i64 77]
  le : ys.length + 1 ≤ cap
  cm : cap ≤ maxLen
theorem OA.below {W w w' : World} {x y : Nm} {g cap : Nat} {ys : List Int} (h : OA W w x y g cap ys) (hb : Below w.heap.size w w') : OA W w' x y g cap ys where
  bel := h.bel.trans (hb.mono h.bel.size)
  rA := (hb.block _ (by have := h.lo; have := h.hi; omega)).trans h.rA
  rB := (hb.block _ (by have := h.lo; have := h.hi; omega)).trans h.rB
  lo := h.lo
  hi := Nat.lt_of_lt_of_le h.hi hb.size
  row := by
    obtain ⟨cur, h1, h2⟩ := h.row
    exact ⟨cur, (hb.block _ h.hi).trans h1, h2⟩
  le := h.le
  cm := h.cm
theorem OA.cell {W w : World} {x y : Nm} {g cap : Nat} {ys : List Int} (h : OA W w x y g cap ys) {i : Nat} (hi : i < ys.length) : w.cell? ⟨g, i, none⟩ = some (.int .i64 ys[i]) := by
  obtain ⟨cur, h1, h2, h3⟩ := h.row
  have hlen : i < cur.size := by have := h.le; omega
  have e : cur.toList[i]? = (vals ys ++ [.int .i64 77])[i]? := by rw [← h3, List.getElem?_take_of_lt (by omega)]
  rw [List.getElem?_append_left (by simpa [vals] using hi)] at e
  simp only [World.cell?, h1]
  simpa [vals, hi] using e
theorem OA.last {W w : World} {x y : Nm} {g cap : Nat} {ys : List Int} (h : OA W w x y g cap ys) : w.cell? ⟨g, ys.length, none⟩ = some (.int .i64 77) := by
  obtain ⟨cur, h1, h2, h3⟩ := h.row
  have hlen : ys.length < cur.size := by have := h.le; omega
  have e : cur.toList[ys.length]? = (vals ys ++ [.int .i64 77])[ys.length]? := by rw [← h3, List.getElem?_take_of_lt (by omega)]
  rw [List.getElem?_append_right (by simp [vals])] at e
  simp only [World.cell?, h1]
  simpa [vals] using e
theorem OA.frozen {W w : World} {x y : Nm} {g cap : Nat} {ys : List Int} (h : OA W w x y g cap ys) (i : Nat) : w.frozen? ⟨g, i, none⟩ = false := by
  obtain ⟨cur, h1, _⟩ := h.row
  simp [World.frozen?, h1]
theorem OA.thr {W w : World} {x y : Nm} {g cap : Nat} {ys : List Int} (h : OA W w x y g cap ys) (hb : ys.length ≤ 140737488351232) : Thr w (some ⟨g, 0, none⟩) ys where
  big := hb
  at_ i hi := ⟨g, 0, rfl, h.hi, by rw [Nat.zero_add]; exact h.cell hi⟩
theorem OA.set {W w : World} {x y : Nm} {g cap : Nat} {ys : List Int} (h : OA W w x y g cap ys) {i : Nat} (hi : i < ys.length) (z : Int) : OA W (w.setCell ⟨g, i, none⟩ (.int .i64 z)) x y g cap (ys.set i z) where
  bel := h.bel.trans (set_bel w _ (by have := h.lo; omega))
  rA := (heap_setCell_other w _ _ _ (by have := h.lo; simp; omega)).trans h.rA
  rB := (heap_setCell_other w _ _ _ (by have := h.lo; simp; omega)).trans h.rB
  lo := h.lo
  hi := by rw [size_set]; exact h.hi
  row := by
    obtain ⟨cur, h1, h2, h3⟩ := h.row
    refine ⟨_, heap_set0 h1, by simpa using h2, ?_⟩
    rw [Array.toList_setIfInBounds, List.take_set, List.length_set, h3, List.set_append_left _ _ (by simpa [vals] using hi)]
    simp [vals, List.map_set]
  le := by simpa using h.le
  cm := h.cm
theorem vals_at {w : World} {p : Addr} {zs : List Int} (h : Thr w (some p) zs) : ∀ (j : Nat) (u : Value), (vals zs)[j]? = some u → w.cell? (p.add j) = some u := by
  intro j u hu
  have hj : j < zs.length := by
    have := (List.getElem?_eq_some_iff.1 hu).1
    simpa [vals] using this
  obtain ⟨b, off, e, _, hc⟩ := h.at_ j hj
  cases e
  rw [Go.WideShapes.add_plain, hc]
  rw [← hu]
  simp [vals, hj]
theorem vals_one {zs : List Int} : ∀ u ∈ vals zs, u.oneCell' = true := by
  intro u hu
  simp only [vals, List.mem_map] at hu
  obtain ⟨z, _, rfl⟩ := hu
  rfl
theorem allocTwo (w : World) (o o' : Obj) (n : Nat) (h : n ≤ w.heap.size) : Below n w ((w.alloc o).alloc o') := ((allocB w o).mono h).trans ((allocB (w.alloc o) o').mono (Nat.le_trans h (allocB w o).size))
theorem info2 : (P.info? 2).map (fun i => (i.zero, i.size, i.bytes)) = some (some (.int .i64 0), 1, 8) := by kernel_rfl
theorem OA.made {W w w1 w2 w3 : World} {x y : Nm} {zs : List Int} {v1 v2 : Value} (hbW : Below W.heap.size W w) (hA : w.heap[W.heap.size]? = some (.cells (ncs x) 28 (0, 0))) (hB : w.heap[W.heap.size + 1]? = some (.cells (ncs y) 28 (0, 0)))
    (o1 : w1.ownsRow (W.heap.size + 2) 2 1 v1 zs.length (vals zs)) (b1 : Below (W.heap.size + 2) w w1) (b2 : Below w1.heap.size w1 w2) (o2 : w3.ownsRow (W.heap.size + 2) 2 1 v2 (zs.length + 1) (vals zs ++ [.int .i64 77])) (g2 : w2.grownBy w3 v1.ownBlock) (hs : W.heap.size + 2 ≤ w.heap.size) :
    ∃ g cap, v2 = .slice (some ⟨g, 0, none⟩) (zs.length + 1) cap ∧ OA W w3 x y g cap zs := by
  have hb3 : Below (W.heap.size + 2) w2 w3 := grown_keep g2 (by have := b1.size; have := b2.size; omega) (fun k hk => by
    rcases o1.2 with ⟨rfl, _⟩ | ⟨g, cap, cur, rfl, hg, _⟩
    · simp [Value.ownBlock] at hk
    · simp [Value.ownBlock] at hk; omega)
  have hb : Below (W.heap.size + 2) w w3 := (b1.trans (b2.mono (by have := b1.size; omega))).trans hb3
  rcases o2.2 with ⟨_, h0⟩ | ⟨g, cap, cur, rfl, hg, hh, hle, hm, hc, ht⟩
  · omega
  · refine ⟨g, cap, rfl, hbW.trans (hb.mono (by omega)), (hb.block _ (by omega)).trans hA, (hb.block _ (by omega)).trans hB, by omega, (Array.getElem?_eq_some_iff.1 hh).1, ⟨cur, hh, by simpa using hc, by simpa using ht⟩, hle, hm⟩
abbrev Nx (d : Nat → Nat) (Φ : Nat → Value → World → Prop) (i : Nat) (a : Act) (w : World) : Act → World → Prop := fun a' w' => ∃ v, a' = a.put (some (d i)) v ∧ Below w.heap.size w w' ∧ Φ i v w'
section
variable {ops : Array Oper} {d : Nat → Nat} {Φ : Nat → Value → World → Prop} {Q : Exit → Act → World → Prop} {i : Nat} {o : Oper} {a : Act} {w : World}
theorem rd_wp (ho : ops[i]? = some o) (hw : Region.wanted o (yielded ops a.tmps) = true) (h : o.wp P a w (Nx d Φ i a w) Q) : wpOp P ops Q i (Nx d Φ i a w) a w := by
  unfold wpOp
  simp only [ho]
  rw [if_pos hw]
  exact .inl h
theorem rd_run (ho : ops[i]? = some o) (hw : Region.wanted o (yielded ops a.tmps) = true) (hd : o.dst = some (d i)) {v : Value} {w' : World} (hr : (execOp a.eval o).run P w = .ok (.value v) w') (hb : Below w.heap.size w w') (hΦ : Φ i v w') : wpOp P ops Q i (Nx d Φ i a w) a w := by
  refine rd_wp ho hw ?_
  unfold Oper.wp
  rw [hr]
  exact ⟨v, by rw [hd], hb, hΦ⟩
theorem rd_pure (ho : ops[i]? = some o) (hw : Region.wanted o (yielded ops a.tmps) = true) (hd : o.dst = some (d i)) {v : Value} (hr : (execOp a.eval o).run P w = .ok (.value v) w) (hΦ : Φ i v w) : wpOp P ops Q i (Nx d Φ i a w) a w :=
  rd_run ho hw hd hr (Below.refl _ _) hΦ
theorem rd_call (ho : ops[i]? = some o) (hw : Region.wanted o (yielded ops a.tmps) = true) (hd : o.dst = some (d i)) {f : FuncId} {args : Array Value} (hr : (execOp a.eval o).run P w = .ok (.enter f args) w) {v : Value}
    (hc : Calls P f args w fun e w' => e = .returned v ∧ Below w.heap.size w w') (hΦ : ∀ w', Below w.heap.size w w' → Φ i v w') : wpOp P ops Q i (Nx d Φ i a w) a w := by
  refine rd_wp ho hw ?_
  unfold Oper.wp
  rw [hr, Oper.upon_enter]
  refine hc.mono ?_
  rintro e w' ⟨rfl, hb⟩
  exact ⟨v, by rw [hd], hb, hΦ w' hb⟩
end
theorem wanted_none {o : Oper} {y : Nat → Option Bool} (h : o.guard = none) : Region.wanted o y = true := by simp [Region.wanted, h]
theorem run_load28 {ρ : Operand → Value} {o : Oper} {t : Operand} {w : World} {b : Nat} {x : Nm} (ho : o.op = .load 28 t) (ht : ρ t = .pointer (some ⟨b, 0, none⟩)) (h : w.heap[b]? = some (.cells (ncs x) 28 (0, 0))) : (execOp ρ o).run P w = .ok (.value (nvx x)) w := by
  obtain ⟨c0, c1, c2, c3, c4, _⟩ := cells5 h
  simp only [execOp, ho, ht]
  go_simp
theorem run_load2 {ρ : Operand → Value} {o : Oper} {t : Operand} {w : World} {p : Addr} {z : Int} (ho : o.op = .load 2 t) (ht : ρ t = .pointer (some p)) (h : w.cell? p = some (.int .i64 z)) : (execOp ρ o).run P w = .ok (.value (.int .i64 z)) w := by
  simp only [execOp, ho, ht]
  go_simp
theorem run_move {ρ : Operand → Value} {o : Oper} {t : Operand} {w : World} {v : Value} (ho : o.op = .move t) (ht : ρ t = v) : (execOp ρ o).run P w = .ok (.value v) w := by
  simp only [execOp, ho, ht]
  rfl
theorem run_assign {ρ : Operand → Value} {o : Oper} {t : Operand} {w : World} {v : Value} (ho : o.op = .assign t) (ht : ρ t = v) : (execOp ρ o).run P w = .ok (.value v) w := by
  simp only [execOp, ho, ht]
  rfl
theorem run_enter {a : Act} {o : Oper} {f : FuncId} {fn : Func} (h1 : P.funcs[f]? = some fn) (h2 : fn.body.isNone = false) {xs : Array Operand} {ts : Array TypeId} {w : World} (ho : o.op = .call { callee := .value (.func f), args := xs, argTypes := ts }) : (execOp a.eval o).run P w = .ok (.enter f (xs.map a.eval)) w := by
  have hρ : a.eval (.func f) = .func (.func f) #[] #[] := rfl
  simp only [execOp, ho]
  go_simp
  exact enter_of ⟨fn, h1, C.names _ _ h1, h2⟩ w _
theorem eval_old {a a0 : Act} {t : Nat} {v : Value} (h : a.tmps[t]? = a0.tmps[t]?) (h0 : a0.tmps.getD t undef = v) : a.eval (.tmp t) = v := by
  simp only [Act.eval, Array.getD_eq_getD_getElem?] at h0 ⊢
  rw [h]; exact h0
def keyR (o : Oper) : Option Tmp × Op × Option (Nat × Bool) × List Nat := (o.dst, o.op, o.guard, (o.after.toList.filter fun e => Region.binds .any e).map (·.on))
theorem afterR {o : Oper} {l : List Nat} (h : (o.after.toList.filter fun e => Region.binds .any e).map (·.on) = l) : (∀ e ∈ o.after, Region.binds .any e = true → e.on ∈ l) ∧ ∀ j ∈ l, ∃ e ∈ o.after, Region.binds .any e = true ∧ e.on = j := by
  subst h
  refine ⟨fun e he hb => List.mem_map.2 ⟨e, List.mem_filter.2 ⟨by simpa using he, hb⟩, rfl⟩, fun j hj => ?_⟩
  obtain ⟨e, h1, rfl⟩ := List.mem_map.1 hj
  obtain ⟨h2, h3⟩ := List.mem_filter.1 h1
  exact ⟨e, by simpa using h2, h3, rfl⟩
theorem keyR_at {ops : Array Oper} {ks : List (Option Tmp × Op × Option (Nat × Bool) × List Nat)} (h : ops.toList.map keyR = ks) {i : Nat} {o : Oper} (ho : ops[i]? = some o) : ks[i]? = some (keyR o) := by
  rw [← h, List.getElem?_map]
  have e : ops.toList[i]? = some o := by simpa using ho
  rw [e]; rfl
theorem keyR_size {ops : Array Oper} {ks : List (Option Tmp × Op × Option (Nat × Bool) × List Nat)} (h : ops.toList.map keyR = ks) : ops.size = ks.length := by
  rw [← h]; simp
theorem keyR_back {ops : Array Oper} {ks : List (Option Tmp × Op × Option (Nat × Bool) × List Nat)} (h : ops.toList.map keyR = ks) (hb : (ks.zipIdx.all fun p => p.1.2.2.2.all fun j => decide (j < p.2)) = true) : ∀ i o, ops[i]? = some o → ∀ e ∈ o.after, Region.binds .any e = true → e.on < i := by
  intro i o ho e he hbi
  have h1 := keyR_at h ho
  have h2 := (afterR (o := o) rfl).1 e he hbi
  have h3 : (keyR o, i) ∈ ks.zipIdx := by
    rw [List.mem_zipIdx_iff_getElem?]
    exact h1
  have h4 := List.all_eq_true.1 hb _ h3
  have h5 := List.all_eq_true.1 h4 _ h2
  simpa using h5
theorem Env.deps {ops : Array Oper} {d : Nat → Nat} {Φ : Nat → Value → World → Prop} {a0 a : Act} {w0 w : World} {o : Oper} (E : Env ops d Φ a0 w0 o a w) {l : List Nat} (h : (o.after.toList.filter fun e => Region.binds .any e).map (·.on) = l) : ∀ j ∈ l, Φ j (a.tmps.getD (d j) undef) w := by
  intro j hj
  obtain ⟨e, h1, h2, rfl⟩ := (afterR h).2 j hj
  exact E.dep e h1 h2
theorem dst_at {ops : Array Oper} {ks : List (Option Tmp × Op × Option (Nat × Bool) × List Nat)} (h : ops.toList.map keyR = ks) (j : Nat) {t : Tmp} (hj : (ks[j]?).map (·.1) = some (some t)) : ∃ o, ops[j]? = some o ∧ o.dst = some t := by
  have : (ops.toList.map keyR)[j]? = ks[j]? := by rw [h]
  rw [List.getElem?_map] at this
  cases ho : ops.toList[j]? with
  | none => rw [ho] at this; simp [← this] at hj
  | some o =>
    rw [ho] at this
    simp only [Option.map_some] at this
    rw [← this] at hj
    refine ⟨o, by simpa using ho, ?_⟩
    simpa [keyR] using hj
theorem wanted_at {ops : Array Oper} {o : Oper} {tm : Array Value} {j : Nat} {want : Bool} {t : Tmp} (hg : o.guard = some (j, want)) (hd : ∃ o', ops[j]? = some o' ∧ o'.dst = some t) (hv : tm.getD t undef = .bool want) : Region.wanted o (yielded ops tm) = true := by
  obtain ⟨o', h1, h2⟩ := hd
  simp only [Array.getD_eq_getD_getElem?] at hv
  simp only [Region.wanted, hg]
  cases h3 : tm[t]? with
  | none => rw [h3] at hv; simp [undef] at hv
  | some v =>
    rw [h3] at hv
    simp only [Option.getD_some] at hv
    subst hv
    simp [yielded, h1, h2, h3]
noncomputable def ops13 : Array Oper := match fbody Tryz.f6 with
  | .seq _ (.seq _ (.seq _ (.seq _ (.seq _ (.seq (.seq (.region _ ops _) _) _))))) => ops
  | _ => #[]
theorem ops13_key : ops13.toList.map keyR = [(some 60, .load 28 (.tmp 5), none, []),
  (some 61, .load 28 (.tmp 6), none, []),
  (some 62, .move (.tmp 16), none, []),
  (some 63, .call { callee := .value (.func 42), args := #[.tmp 60, .tmp 61, .tmp 62], argTypes := #[28, 28, 51] }, none, [0, 1, 2]),
  (some 64, .load 28 (.tmp 5), none, []),
  (some 65, .load 28 (.tmp 6), none, []),
  (some 66, .move (.tmp 3), none, []),
  (some 67, .call { callee := .value (.func 43), args := #[.tmp 64, .tmp 65, .tmp 66], argTypes := #[28, 28, 51] }, none, [4, 5, 6, 3]),
  (some 68, .binOp .neq 28 (.tmp 63) (.tmp 67) 28, none, [3, 7])] := by kernel_rfl
def c13 (x y : Nm) (own thr : Value) (zs : List Int) : Nat → Value
  | 0 => nvx x
  | 1 => nvx y
  | 2 => own
  | 3 => nvx (widN (normS x) (normS y) zs)
  | 4 => nvx x
  | 5 => nvx y
  | 6 => thr
  | 7 => nvx (widN (normS x) (normS y) zs)
  | _ => .bool false
def d13 (i : Nat) : Nat := 60 + i
def f13 (x y : Nm) (own thr : Value) (zs : List Int) (i : Nat) (v : Value) (_ : World) : Prop := v = c13 x y own thr zs i
theorem run_neq28 {ρ : Operand → Value} {o : Oper} {s t : Operand} {w : World} {z : Nm} (ho : o.op = .binOp .neq 28 s t 28) (hs : ρ s = nvx z) (ht : ρ t = nvx z) : (execOp ρ o).run P w = .ok (.value (.bool false)) w := by
  simp only [execOp, ho, hs, ht]
  go_simp
theorem reg13 {W w0 : World} {Q : Exit → Act → World → Prop} {a0 : Act} {x y : Nm} {g cap tc : Nat} {zs : List Int} {ta : Option Addr} (hG : GOK G W) (hx : Raw x) (hy : Raw y) (hO : OA W w0 x y g cap zs) (hz : Thr W ta zs) (s0 : a0.tmps.size = 122)
    (h5 : a0.tmps.getD 5 undef = .pointer (some ⟨W.heap.size, 0, none⟩)) (h6 : a0.tmps.getD 6 undef = .pointer (some ⟨W.heap.size + 1, 0, none⟩)) (h16 : a0.tmps.getD 16 undef = .slice (some ⟨g, 0, none⟩) zs.length cap) (h3 : a0.tmps.getD 3 undef = .slice ta zs.length tc)
    (hQ : ∀ a w, a.defers = a0.defers → a.tmps.size = a0.tmps.size → Below w0.heap.size w0 w → a.tmps.getD 68 undef = .bool false → (∀ t, t ∉ [60, 61, 62, 63, 64, 65, 66, 67, 68] → a.tmps[t]? = a0.tmps[t]?) → Q .normal a w) : (Code.region 13 ops13 true).wp P Q a0 w0 := by
  have hbig := hz.big
  have hs : ops13.size = 9 := keyR_size ops13_key
  refine region_det (by kernel_rfl) d13 (f13 x y (.slice (some ⟨g, 0, none⟩) zs.length cap) (.slice ta zs.length tc) zs) (fun i hi => by rw [hs] at hi; rw [s0]; show 60 + i < 122; omega) (fun i j _ _ e => by have e : 60 + i = 60 + j := e; omega) (fun _ _ _ _ h _ => h) (keyR_back ops13_key (by decide)) ?step ?fin
  case fin =>
    intro a w h1 h2 hb h4 h5
    exact hQ a w h1 h2 hb (h4 8 (by omega)) (fun t ht => h5 t fun i hi e => ht (by
      have e : 60 + i = t := e
      rw [hs] at hi
      subst e
      match i, hi with
      | 0, _ => simp
      | 1, _ => simp
      | 2, _ => simp
      | 3, _ => simp
      | 4, _ => simp
      | 5, _ => simp
      | 6, _ => simp
      | 7, _ => simp
      | 8, _ => simp))
  intro i o a w ho E
  have hk := keyR_at ops13_key ho
  match i, hk with
  | 0, hk =>
    obtain ⟨hd, hop, hg, hl⟩ : some 60 = o.dst ∧ Op.load 28 (.tmp 5) = o.op ∧ (none : Option (Nat × Bool)) = o.guard ∧ ([] : List Nat) = (o.after.toList.filter fun e => Region.binds .any e).map (·.on) := by simpa [keyR] using hk
    have dep := E.deps hl.symm
    have hw : Region.wanted o (yielded ops13 a.tmps) = true := wanted_none hg.symm
    refine rd_pure (d := d13) (Φ := f13 x y (.slice (some ⟨g, 0, none⟩) zs.length cap) (.slice ta zs.length tc) zs) ho hw hd.symm (run_load28 hop.symm (eval_old (E.old 5 (fun i hi => by have := hi; show 60 + i ≠ 5; omega)) h5) ((hO.below E.bel).rA)) ?_
    rfl
  | 1, hk =>
    obtain ⟨hd, hop, hg, hl⟩ : some 61 = o.dst ∧ Op.load 28 (.tmp 6) = o.op ∧ (none : Option (Nat × Bool)) = o.guard ∧ ([] : List Nat) = (o.after.toList.filter fun e => Region.binds .any e).map (·.on) := by simpa [keyR] using hk
    have dep := E.deps hl.symm
    have hw : Region.wanted o (yielded ops13 a.tmps) = true := wanted_none hg.symm
    refine rd_pure (d := d13) (Φ := f13 x y (.slice (some ⟨g, 0, none⟩) zs.length cap) (.slice ta zs.length tc) zs) ho hw hd.symm (run_load28 hop.symm (eval_old (E.old 6 (fun i hi => by have := hi; show 60 + i ≠ 6; omega)) h6) ((hO.below E.bel).rB)) ?_
    rfl
  | 2, hk =>
    obtain ⟨hd, hop, hg, hl⟩ : some 62 = o.dst ∧ Op.move (.tmp 16) = o.op ∧ (none : Option (Nat × Bool)) = o.guard ∧ ([] : List Nat) = (o.after.toList.filter fun e => Region.binds .any e).map (·.on) := by simpa [keyR] using hk
    have dep := E.deps hl.symm
    have hw : Region.wanted o (yielded ops13 a.tmps) = true := wanted_none hg.symm
    refine rd_pure (d := d13) (Φ := f13 x y (.slice (some ⟨g, 0, none⟩) zs.length cap) (.slice ta zs.length tc) zs) ho hw hd.symm (run_move hop.symm (eval_old (E.old 16 (fun i hi => by have := hi; show 60 + i ≠ 16; omega)) h16)) ?_
    rfl
  | 3, hk =>
    obtain ⟨hd, hop, hg, hl⟩ : some 63 = o.dst ∧ Op.call { callee := .value (.func 42), args := #[.tmp 60, .tmp 61, .tmp 62], argTypes := #[28, 28, 51] } = o.op ∧ (none : Option (Nat × Bool)) = o.guard ∧ [0, 1, 2] = (o.after.toList.filter fun e => Region.binds .any e).map (·.on) := by simpa [keyR] using hk
    have dep := E.deps hl.symm
    have hw : Region.wanted o (yielded ops13 a.tmps) = true := wanted_none hg.symm
    have e0 : a.eval (.tmp 60) = nvx x := dep 0 (by simp)
    have e1 : a.eval (.tmp 61) = nvx y := dep 1 (by simp)
    have e2 : a.eval (.tmp 62) = .slice (some ⟨g, 0, none⟩) zs.length cap := dep 2 (by simp)
    refine rd_call (d := d13) (Φ := f13 x y (.slice (some ⟨g, 0, none⟩) zs.length cap) (.slice ta zs.length tc) zs) ho hw hd.symm (f := 42) (args := #[nvx x, nvx y, .slice (some ⟨g, 0, none⟩) zs.length cap]) (v := nvx (widN (normS x) (normS y) zs)) ?_ ?_ (fun _ _ => rfl)
    · have he := run_enter (a := a) (w := w) Tryz.func42 (by kernel_rfl) hop.symm
      simp only [List.map_toArray, List.map_cons, List.map_nil, e0, e1, e2] at he
      exact he
    · exact nwid_walk (gok_b hG (Nat.le_refl _) (hO.below E.bel).bel) ((hO.below E.bel).thr hbig) hx hy
  | 4, hk =>
    obtain ⟨hd, hop, hg, hl⟩ : some 64 = o.dst ∧ Op.load 28 (.tmp 5) = o.op ∧ (none : Option (Nat × Bool)) = o.guard ∧ ([] : List Nat) = (o.after.toList.filter fun e => Region.binds .any e).map (·.on) := by simpa [keyR] using hk
    have dep := E.deps hl.symm
    have hw : Region.wanted o (yielded ops13 a.tmps) = true := wanted_none hg.symm
    refine rd_pure (d := d13) (Φ := f13 x y (.slice (some ⟨g, 0, none⟩) zs.length cap) (.slice ta zs.length tc) zs) ho hw hd.symm (run_load28 hop.symm (eval_old (E.old 5 (fun i hi => by have := hi; show 60 + i ≠ 5; omega)) h5) ((hO.below E.bel).rA)) ?_
    rfl
  | 5, hk =>
    obtain ⟨hd, hop, hg, hl⟩ : some 65 = o.dst ∧ Op.load 28 (.tmp 6) = o.op ∧ (none : Option (Nat × Bool)) = o.guard ∧ ([] : List Nat) = (o.after.toList.filter fun e => Region.binds .any e).map (·.on) := by simpa [keyR] using hk
    have dep := E.deps hl.symm
    have hw : Region.wanted o (yielded ops13 a.tmps) = true := wanted_none hg.symm
    refine rd_pure (d := d13) (Φ := f13 x y (.slice (some ⟨g, 0, none⟩) zs.length cap) (.slice ta zs.length tc) zs) ho hw hd.symm (run_load28 hop.symm (eval_old (E.old 6 (fun i hi => by have := hi; show 60 + i ≠ 6; omega)) h6) ((hO.below E.bel).rB)) ?_
    rfl
  | 6, hk =>
    obtain ⟨hd, hop, hg, hl⟩ : some 66 = o.dst ∧ Op.move (.tmp 3) = o.op ∧ (none : Option (Nat × Bool)) = o.guard ∧ ([] : List Nat) = (o.after.toList.filter fun e => Region.binds .any e).map (·.on) := by simpa [keyR] using hk
    have dep := E.deps hl.symm
    have hw : Region.wanted o (yielded ops13 a.tmps) = true := wanted_none hg.symm
    refine rd_pure (d := d13) (Φ := f13 x y (.slice (some ⟨g, 0, none⟩) zs.length cap) (.slice ta zs.length tc) zs) ho hw hd.symm (run_move hop.symm (eval_old (E.old 3 (fun i hi => by have := hi; show 60 + i ≠ 3; omega)) h3)) ?_
    rfl
  | 7, hk =>
    obtain ⟨hd, hop, hg, hl⟩ : some 67 = o.dst ∧ Op.call { callee := .value (.func 43), args := #[.tmp 64, .tmp 65, .tmp 66], argTypes := #[28, 28, 51] } = o.op ∧ (none : Option (Nat × Bool)) = o.guard ∧ [4, 5, 6, 3] = (o.after.toList.filter fun e => Region.binds .any e).map (·.on) := by simpa [keyR] using hk
    have dep := E.deps hl.symm
    have hw : Region.wanted o (yielded ops13 a.tmps) = true := wanted_none hg.symm
    have e0 : a.eval (.tmp 64) = nvx x := dep 4 (by simp)
    have e1 : a.eval (.tmp 65) = nvx y := dep 5 (by simp)
    have e2 : a.eval (.tmp 66) = .slice ta zs.length tc := dep 6 (by simp)
    refine rd_call (d := d13) (Φ := f13 x y (.slice (some ⟨g, 0, none⟩) zs.length cap) (.slice ta zs.length tc) zs) ho hw hd.symm (f := 43) (args := #[nvx x, nvx y, .slice ta zs.length tc]) (v := nvx (widN (normS x) (normS y) zs)) ?_ ?_ (fun _ _ => rfl)
    · have he := run_enter (a := a) (w := w) Tryz.func43 (by kernel_rfl) hop.symm
      simp only [List.map_toArray, List.map_cons, List.map_nil, e0, e1, e2] at he
      exact he
    · exact nwid2_walk (gok_b hG (Nat.le_refl _) (hO.below E.bel).bel) (hz.below (hO.below E.bel).bel) hx hy
  | 8, hk =>
    obtain ⟨hd, hop, hg, hl⟩ : some 68 = o.dst ∧ Op.binOp .neq 28 (.tmp 63) (.tmp 67) 28 = o.op ∧ (none : Option (Nat × Bool)) = o.guard ∧ [3, 7] = (o.after.toList.filter fun e => Region.binds .any e).map (·.on) := by simpa [keyR] using hk
    have dep := E.deps hl.symm
    have hw : Region.wanted o (yielded ops13 a.tmps) = true := wanted_none hg.symm
    have e0 : a.eval (.tmp 63) = nvx (widN (normS x) (normS y) zs) := dep 3 (by simp)
    have e1 : a.eval (.tmp 67) = nvx (widN (normS x) (normS y) zs) := dep 7 (by simp)
    refine rd_pure (d := d13) (Φ := f13 x y (.slice (some ⟨g, 0, none⟩) zs.length cap) (.slice ta zs.length tc) zs) ho hw hd.symm (run_neq28 hop.symm e0 e1) ?_
    rfl
  | j + 9, hk => simp at hk
noncomputable def ops26 : Array Oper := match fbody Tryz.f6 with
  | .seq _ (.seq _ (.seq _ (.seq _ (.seq _ (.seq _ (.seq _ (.seq _ (.seq (.region _ ops _) _)))))))) => ops
  | _ => #[]
theorem ops26_key : ops26.toList.map keyR = [(some 101, .move (.tmp 16), none, []),
  (some 102, .move (.tmp 15), none, []),
  (some 103, .binOp .add 3 (.tmp 102) (.const (.int .i64 1)) 3, none, [1]),
  (some 104, .slice 51 (.tmp 101) none (some (.tmp 103)) none, none, [0, 2]),
  (some 105, .move (.tmp 15), none, []),
  (some 106, .indexAddr 51 (.tmp 104) (.tmp 105), none, [3, 4]),
  (some 107, .load 2 (.tmp 106), none, [5]),
  (some 108, .binOp .eql 2 (.tmp 107) (.const (.int .i64 77)) 2, none, [6]),
  (some 109, .move (.tmp 108), none, [7]),
  (some 110, .load 28 (.tmp 5), some (8, true), [8]),
  (some 111, .load 28 (.tmp 6), some (8, true), [8]),
  (some 112, .move (.tmp 16), some (8, true), [8]),
  (some 113, .call { callee := .value (.func 42), args := #[.tmp 110, .tmp 111, .tmp 112], argTypes := #[28, 28, 51] }, some (8, true), [9, 10, 11, 8, 8]),
  (some 114, .load 28 (.tmp 5), some (8, true), [8]),
  (some 115, .load 28 (.tmp 6), some (8, true), [8]),
  (some 116, .buildSlice 51 0 #[], some (8, true), [8]),
  (some 117, .move (.tmp 16), some (8, true), [8]),
  (some 118, .call { callee := .builtin .append, args := #[.tmp 116, .tmp 117], argTypes := #[51, 51] }, some (8, true), [15, 16, 12, 8]),
  (some 119, .call { callee := .value (.func 43), args := #[.tmp 114, .tmp 115, .tmp 118], argTypes := #[28, 28, 51] }, some (8, true), [13, 14, 17, 17, 8]),
  (some 120, .binOp .eql 28 (.tmp 113) (.tmp 119) 28, some (8, true), [12, 18, 8]),
  (some 121, .pick (.tmp 109) (.tmp 120) (.const (.bool false)), none, [8, 19]),
  (some 8, .assign (.tmp 121), none, [20, 18, 0, 1, 2, 3, 4, 5, 6, 7, 8, 9, 10, 11, 12, 13, 14, 15, 16, 17, 18, 19, 20])] := by kernel_rfl
def c26 (x y : Nm) (g cap : Nat) (ys : List Int) : Nat → Value
  | 0 => .slice (some ⟨g, 0, none⟩) ys.length cap
  | 1 => .int .i64 ys.length
  | 2 => .int .i64 ((ys.length : Int) + 1)
  | 3 => .slice (some ⟨g, 0, none⟩) (ys.length + 1) cap
  | 4 => .int .i64 ys.length
  | 5 => .pointer (some ⟨g, ys.length, none⟩)
  | 6 => .int .i64 77
  | 7 => .bool true
  | 8 => .bool true
  | 9 => nvx x
  | 10 => nvx y
  | 11 => .slice (some ⟨g, 0, none⟩) ys.length cap
  | 12 => nvx (widN (normS x) (normS y) ys)
  | 13 => nvx x
  | 14 => nvx y
  | 16 => .slice (some ⟨g, 0, none⟩) ys.length cap
  | 18 => nvx (widN (normS x) (normS y) ys)
  | _ => .bool true
def d26 (i : Nat) : Nat := if i < 21 then 101 + i else 8
def f26 (x y : Nm) (g cap : Nat) (ys : List Int) (i : Nat) (v : Value) (w : World) : Prop := match i with
  | 15 => ∃ q, v = .slice (some q) 0 0
  | 17 => ∃ q c, v = .slice q ys.length c ∧ Thr w q ys
  | i => v = c26 x y g cap ys i
theorem f26_stable {x y : Nm} {g cap : Nat} {ys : List Int} (i : Nat) (v : Value) (w w' : World) (h : f26 x y g cap ys i v w) (hb : Below w.heap.size w w') : f26 x y g cap ys i v w' := by
  unfold f26 at h ⊢
  split at h
  · exact h
  · obtain ⟨q, c, e, ht⟩ := h
    exact ⟨q, c, e, ht.below hb⟩
  · exact h
section
variable {ρ : Operand → Value} {o : Oper} {s t : Operand} {w : World}
theorem run_eq28 {z : Nm} (ho : o.op = .binOp .eql 28 s t 28) (hs : ρ s = nvx z) (ht : ρ t = nvx z) : (execOp ρ o).run P w = .ok (.value (.bool true)) w := by
  simp only [execOp, ho, hs, ht]
  go_simp
theorem run_inc {n : Nat} (ho : o.op = .binOp .add 3 s (.const (.int .i64 1)) 3) (hc : ρ (.const (.int .i64 1)) = .int .i64 1) (hs : ρ s = .int .i64 n) (hn : n ≤ 140737488351232) : (execOp ρ o).run P w = .ok (.value (.int .i64 ((n : Int) + 1))) w := by
  simp only [execOp, ho, hs, hc]
  go_simp
  exact wi_id (by omega) (by omega)
theorem run_resl {g n cap : Nat} (ho : o.op = .slice 51 s none (some t) none) (hs : ρ s = .slice (some ⟨g, 0, none⟩) n cap) (ht : ρ t = .int .i64 ((n : Int) + 1)) (hle : n + 1 ≤ cap) : (execOp ρ o).run P w = .ok (.value (.slice (some ⟨g, 0, none⟩) (n + 1) cap)) w := by
  simp only [execOp, ho, Option.map_some, Option.map_none, hs, ht]
  go_simp
  intro h
  exact absurd (h (by omega)) (by omega)
theorem run_ixa {g n cap : Nat} (ho : o.op = .indexAddr 51 s t) (hs : ρ s = .slice (some ⟨g, 0, none⟩) (n + 1) cap) (ht : ρ t = .int .i64 n) : (execOp ρ o).run P w = .ok (.value (.pointer (some ⟨g, n, none⟩))) w := by
  simp only [execOp, ho, hs, ht]
  go_simp
  intro h
  omega
theorem run_eq77 (ho : o.op = .binOp .eql 2 s (.const (.int .i64 77)) 2) (hc : ρ (.const (.int .i64 77)) = .int .i64 77) (hs : ρ s = .int .i64 77) : (execOp ρ o).run P w = .ok (.value (.bool true)) w := by
  simp only [execOp, ho, hs, hc]
  go_simp
theorem run_empty (ho : o.op = .buildSlice 51 0 #[]) : (execOp ρ o).run P w = .ok (.value (.slice (some ⟨w.heap.size, 0, none⟩) 0 0)) (w.alloc (.cells #[] 2)) := by
  simp only [execOp, ho]
  go_simp
theorem run_pick {u : Operand} (ho : o.op = .pick s t u) (hs : ρ s = .bool true) (ht : ρ t = .bool true) : (execOp ρ o).run P w = .ok (.value (.bool true)) w := by
  simp only [execOp, ho, hs, ht]
  go_simp
theorem run_app {q : Addr} {g cap : Nat} {ys : List Int} (ho : o.op = .call { callee := .builtin .append, args := #[s, t], argTypes := #[51, 51] }) (hs : ρ s = .slice (some q) 0 0) (ht : ρ t = .slice (some ⟨g, 0, none⟩) ys.length cap) (h : Thr w (some ⟨g, 0, none⟩) ys) (hb8 : ys.length * 8 ≤ 140737488351232) :
    ∃ v' w', (execOp ρ o).run P w = .ok (.value v') w' ∧ Below w.heap.size w w' ∧ ∃ q' c', v' = .slice q' ys.length c' ∧ Thr w' q' ys := by
  obtain ⟨i0, hi, hz0, hz1, hz2⟩ := info_parts info2
  by_cases he : ys = []
  · subst he
    have hrun : ∃ w', (execOp ρ o).run P w = .ok (.value (.slice (some q) 0 0)) w' ∧ Below w.heap.size w w' := by
      refine ⟨w, ?_, Below.refl _ _⟩
      simp [execOp, ho, resolve, invoke, builtin, hs, ht, Result.andThen]
      go_simp
    obtain ⟨w', h1, h2⟩ := hrun
    exact ⟨_, w', h1, h2, some q, 0, rfl, ⟨by simp, fun i hi => by simp at hi⟩⟩
  · have hpos : 0 < ys.length := List.length_pos_iff.2 he
    obtain ⟨v', w', hrun, r1, r2⟩ := run_append_arg_grows (P := P) w 51 o.type 2 i0 (.int .i64 0) 1 8 Tryz.underlying51 hi hz0 hz1 hz2 rfl (by decide) q 0 0 [] rfl (by intro j u hu; simp at hu) ⟨g, 0, none⟩ ys.length cap (vals ys) (by simp [vals]) (vals_at h) (by omega) (by have : maxLen = 9223372036854775807 := rfl; omega) (by omega)
    refine ⟨v', w', by simp [execOp, ho, resolve, invoke, builtin, hs, ht, hrun, Result.andThen], ⟨r2.os, r2.tape, r2.output, r2.size, fun k hk => r2.block k hk (by simp)⟩, ?_⟩
    rcases r1.2 with ⟨_, h0⟩ | ⟨g', cap', cur, rfl, hg, hh, hle, hm, hc, htk⟩
    · omega
    · refine ⟨some ⟨g', 0, none⟩, cap', by simp, ⟨by omega, fun i hi => ⟨g', 0, rfl, (Array.getElem?_eq_some_iff.1 hh).1, ?_⟩⟩⟩
      have e : cur.toList[i]? = (vals ys)[i]? := by
        have e2 : cur.toList.take ys.length = vals ys := by simpa using htk
        rw [← e2, List.getElem?_take_of_lt hi]
      simp only [World.cell?, hh, Nat.zero_add]
      simpa [vals, hi] using e
end
theorem reg26 {W w0 : World} {Q : Exit → Act → World → Prop} {a0 : Act} {x y : Nm} {g cap : Nat} {ys : List Int} (hG : GOK G W) (hx : Raw x) (hy : Raw y) (hO : OA W w0 x y g cap ys) (hb8 : ys.length * 8 ≤ 140737488351232) (s0 : a0.tmps.size = 122)
    (h5 : a0.tmps.getD 5 undef = .pointer (some ⟨W.heap.size, 0, none⟩)) (h6 : a0.tmps.getD 6 undef = .pointer (some ⟨W.heap.size + 1, 0, none⟩)) (h16 : a0.tmps.getD 16 undef = .slice (some ⟨g, 0, none⟩) ys.length cap) (h15 : a0.tmps.getD 15 undef = .int .i64 ys.length)
    (hQ : ∀ a w, a.defers = a0.defers → a.tmps.size = a0.tmps.size → Below w0.heap.size w0 w → a.tmps.getD 8 undef = .bool true → Q .normal a w) : (Code.region 26 ops26 true).wp P Q a0 w0 := by
  have hbig : ys.length ≤ 140737488351232 := by omega
  have hs : ops26.size = 22 := keyR_size ops26_key
  refine region_det (by kernel_rfl) d26 (f26 x y g cap ys) (fun i hi => by rw [hs] at hi; rw [s0]; unfold d26; split <;> omega) (fun i j hi hj e => by rw [hs] at hi hj; unfold d26 at e; split at e <;> split at e <;> omega) f26_stable (keyR_back ops26_key (by decide)) ?step ?fin
  case fin =>
    intro a w h1 h2 hb h4 h5
    exact hQ a w h1 h2 hb (h4 21 (by omega))
  intro i o a w ho E
  have hk := keyR_at ops26_key ho
  match i, hk with
  | 0, hk =>
    obtain ⟨hd, hop, hg, hl⟩ : some 101 = o.dst ∧ Op.move (.tmp 16) = o.op ∧ (none : Option (Nat × Bool)) = o.guard ∧ ([] : List Nat) = (o.after.toList.filter fun e => Region.binds .any e).map (·.on) := by simpa [keyR] using hk
    have dep := E.deps hl.symm
    have hw : Region.wanted o (yielded ops26 a.tmps) = true := wanted_none hg.symm
    refine rd_pure (d := d26) (Φ := f26 x y g cap ys) ho hw hd.symm (run_move hop.symm (eval_old (E.old 16 (fun i hi => by rw [hs] at hi; show (if i < 21 then 101 + i else 8) ≠ 16; split <;> omega)) h16)) ?_
    rfl
  | 1, hk =>
    obtain ⟨hd, hop, hg, hl⟩ : some 102 = o.dst ∧ Op.move (.tmp 15) = o.op ∧ (none : Option (Nat × Bool)) = o.guard ∧ ([] : List Nat) = (o.after.toList.filter fun e => Region.binds .any e).map (·.on) := by simpa [keyR] using hk
    have dep := E.deps hl.symm
    have hw : Region.wanted o (yielded ops26 a.tmps) = true := wanted_none hg.symm
    refine rd_pure (d := d26) (Φ := f26 x y g cap ys) ho hw hd.symm (run_move hop.symm (eval_old (E.old 15 (fun i hi => by rw [hs] at hi; show (if i < 21 then 101 + i else 8) ≠ 15; split <;> omega)) h15)) ?_
    rfl
  | 2, hk =>
    obtain ⟨hd, hop, hg, hl⟩ : some 103 = o.dst ∧ Op.binOp .add 3 (.tmp 102) (.const (.int .i64 1)) 3 = o.op ∧ (none : Option (Nat × Bool)) = o.guard ∧ [1] = (o.after.toList.filter fun e => Region.binds .any e).map (·.on) := by simpa [keyR] using hk
    have dep := E.deps hl.symm
    have hw : Region.wanted o (yielded ops26 a.tmps) = true := wanted_none hg.symm
    have e0 : a.eval (.tmp 102) = .int .i64 ys.length := dep 1 (by simp)
    refine rd_pure (d := d26) (Φ := f26 x y g cap ys) ho hw hd.symm (run_inc hop.symm rfl e0 hbig) ?_
    rfl
  | 3, hk =>
    obtain ⟨hd, hop, hg, hl⟩ : some 104 = o.dst ∧ Op.slice 51 (.tmp 101) none (some (.tmp 103)) none = o.op ∧ (none : Option (Nat × Bool)) = o.guard ∧ [0, 2] = (o.after.toList.filter fun e => Region.binds .any e).map (·.on) := by simpa [keyR] using hk
    have dep := E.deps hl.symm
    have hw : Region.wanted o (yielded ops26 a.tmps) = true := wanted_none hg.symm
    have e0 : a.eval (.tmp 101) = .slice (some ⟨g, 0, none⟩) ys.length cap := dep 0 (by simp)
    have e1 : a.eval (.tmp 103) = .int .i64 ((ys.length : Int) + 1) := dep 2 (by simp)
    refine rd_pure (d := d26) (Φ := f26 x y g cap ys) ho hw hd.symm (run_resl hop.symm e0 e1 hO.le) ?_
    rfl
  | 4, hk =>
    obtain ⟨hd, hop, hg, hl⟩ : some 105 = o.dst ∧ Op.move (.tmp 15) = o.op ∧ (none : Option (Nat × Bool)) = o.guard ∧ ([] : List Nat) = (o.after.toList.filter fun e => Region.binds .any e).map (·.on) := by simpa [keyR] using hk
    have dep := E.deps hl.symm
    have hw : Region.wanted o (yielded ops26 a.tmps) = true := wanted_none hg.symm
    refine rd_pure (d := d26) (Φ := f26 x y g cap ys) ho hw hd.symm (run_move hop.symm (eval_old (E.old 15 (fun i hi => by rw [hs] at hi; show (if i < 21 then 101 + i else 8) ≠ 15; split <;> omega)) h15)) ?_
    rfl
  | 5, hk =>
    obtain ⟨hd, hop, hg, hl⟩ : some 106 = o.dst ∧ Op.indexAddr 51 (.tmp 104) (.tmp 105) = o.op ∧ (none : Option (Nat × Bool)) = o.guard ∧ [3, 4] = (o.after.toList.filter fun e => Region.binds .any e).map (·.on) := by simpa [keyR] using hk
    have dep := E.deps hl.symm
    have hw : Region.wanted o (yielded ops26 a.tmps) = true := wanted_none hg.symm
    have e0 : a.eval (.tmp 104) = .slice (some ⟨g, 0, none⟩) (ys.length + 1) cap := dep 3 (by simp)
    have e1 : a.eval (.tmp 105) = .int .i64 ys.length := dep 4 (by simp)
    refine rd_pure (d := d26) (Φ := f26 x y g cap ys) ho hw hd.symm (run_ixa hop.symm e0 e1) ?_
    rfl
  | 6, hk =>
    obtain ⟨hd, hop, hg, hl⟩ : some 107 = o.dst ∧ Op.load 2 (.tmp 106) = o.op ∧ (none : Option (Nat × Bool)) = o.guard ∧ [5] = (o.after.toList.filter fun e => Region.binds .any e).map (·.on) := by simpa [keyR] using hk
    have dep := E.deps hl.symm
    have hw : Region.wanted o (yielded ops26 a.tmps) = true := wanted_none hg.symm
    have e0 : a.eval (.tmp 106) = .pointer (some ⟨g, ys.length, none⟩) := dep 5 (by simp)
    refine rd_pure (d := d26) (Φ := f26 x y g cap ys) ho hw hd.symm (run_load2 hop.symm e0 (hO.below E.bel).last) ?_
    rfl
  | 7, hk =>
    obtain ⟨hd, hop, hg, hl⟩ : some 108 = o.dst ∧ Op.binOp .eql 2 (.tmp 107) (.const (.int .i64 77)) 2 = o.op ∧ (none : Option (Nat × Bool)) = o.guard ∧ [6] = (o.after.toList.filter fun e => Region.binds .any e).map (·.on) := by simpa [keyR] using hk
    have dep := E.deps hl.symm
    have hw : Region.wanted o (yielded ops26 a.tmps) = true := wanted_none hg.symm
    have e0 : a.eval (.tmp 107) = .int .i64 77 := dep 6 (by simp)
    refine rd_pure (d := d26) (Φ := f26 x y g cap ys) ho hw hd.symm (run_eq77 hop.symm rfl e0) ?_
    rfl
  | 8, hk =>
    obtain ⟨hd, hop, hg, hl⟩ : some 109 = o.dst ∧ Op.move (.tmp 108) = o.op ∧ (none : Option (Nat × Bool)) = o.guard ∧ [7] = (o.after.toList.filter fun e => Region.binds .any e).map (·.on) := by simpa [keyR] using hk
    have dep := E.deps hl.symm
    have hw : Region.wanted o (yielded ops26 a.tmps) = true := wanted_none hg.symm
    have e0 : a.eval (.tmp 108) = .bool true := dep 7 (by simp)
    refine rd_pure (d := d26) (Φ := f26 x y g cap ys) ho hw hd.symm (run_move hop.symm e0) ?_
    rfl
  | 9, hk =>
    obtain ⟨hd, hop, hg, hl⟩ : some 110 = o.dst ∧ Op.load 28 (.tmp 5) = o.op ∧ (some (8, true) : Option (Nat × Bool)) = o.guard ∧ [8] = (o.after.toList.filter fun e => Region.binds .any e).map (·.on) := by simpa [keyR] using hk
    have dep := E.deps hl.symm
    have hw : Region.wanted o (yielded ops26 a.tmps) = true := wanted_at hg.symm (dst_at ops26_key 8 rfl) (dep 8 (by simp))
    refine rd_pure (d := d26) (Φ := f26 x y g cap ys) ho hw hd.symm (run_load28 hop.symm (eval_old (E.old 5 (fun i hi => by rw [hs] at hi; show (if i < 21 then 101 + i else 8) ≠ 5; split <;> omega)) h5) ((hO.below E.bel).rA)) ?_
    rfl
  | 10, hk =>
    obtain ⟨hd, hop, hg, hl⟩ : some 111 = o.dst ∧ Op.load 28 (.tmp 6) = o.op ∧ (some (8, true) : Option (Nat × Bool)) = o.guard ∧ [8] = (o.after.toList.filter fun e => Region.binds .any e).map (·.on) := by simpa [keyR] using hk
    have dep := E.deps hl.symm
    have hw : Region.wanted o (yielded ops26 a.tmps) = true := wanted_at hg.symm (dst_at ops26_key 8 rfl) (dep 8 (by simp))
    refine rd_pure (d := d26) (Φ := f26 x y g cap ys) ho hw hd.symm (run_load28 hop.symm (eval_old (E.old 6 (fun i hi => by rw [hs] at hi; show (if i < 21 then 101 + i else 8) ≠ 6; split <;> omega)) h6) ((hO.below E.bel).rB)) ?_
    rfl
  | 11, hk =>
    obtain ⟨hd, hop, hg, hl⟩ : some 112 = o.dst ∧ Op.move (.tmp 16) = o.op ∧ (some (8, true) : Option (Nat × Bool)) = o.guard ∧ [8] = (o.after.toList.filter fun e => Region.binds .any e).map (·.on) := by simpa [keyR] using hk
    have dep := E.deps hl.symm
    have hw : Region.wanted o (yielded ops26 a.tmps) = true := wanted_at hg.symm (dst_at ops26_key 8 rfl) (dep 8 (by simp))
    refine rd_pure (d := d26) (Φ := f26 x y g cap ys) ho hw hd.symm (run_move hop.symm (eval_old (E.old 16 (fun i hi => by rw [hs] at hi; show (if i < 21 then 101 + i else 8) ≠ 16; split <;> omega)) h16)) ?_
    rfl
  | 12, hk =>
    obtain ⟨hd, hop, hg, hl⟩ : some 113 = o.dst ∧ Op.call { callee := .value (.func 42), args := #[.tmp 110, .tmp 111, .tmp 112], argTypes := #[28, 28, 51] } = o.op ∧ (some (8, true) : Option (Nat × Bool)) = o.guard ∧ [9, 10, 11, 8, 8] = (o.after.toList.filter fun e => Region.binds .any e).map (·.on) := by simpa [keyR] using hk
    have dep := E.deps hl.symm
    have hw : Region.wanted o (yielded ops26 a.tmps) = true := wanted_at hg.symm (dst_at ops26_key 8 rfl) (dep 8 (by simp))
    have e0 : a.eval (.tmp 110) = nvx x := dep 9 (by simp)
    have e1 : a.eval (.tmp 111) = nvx y := dep 10 (by simp)
    have e2 : a.eval (.tmp 112) = .slice (some ⟨g, 0, none⟩) ys.length cap := dep 11 (by simp)
    refine rd_call (d := d26) (Φ := f26 x y g cap ys) ho hw hd.symm (f := 42) (args := #[nvx x, nvx y, .slice (some ⟨g, 0, none⟩) ys.length cap]) (v := nvx (widN (normS x) (normS y) ys)) ?_ ?_ (fun _ _ => rfl)
    · have he := run_enter (a := a) (w := w) Tryz.func42 (by kernel_rfl) hop.symm
      simp only [List.map_toArray, List.map_cons, List.map_nil, e0, e1, e2] at he
      exact he
    · exact nwid_walk (gok_b hG (Nat.le_refl _) (hO.below E.bel).bel) ((hO.below E.bel).thr hbig) hx hy
  | 13, hk =>
    obtain ⟨hd, hop, hg, hl⟩ : some 114 = o.dst ∧ Op.load 28 (.tmp 5) = o.op ∧ (some (8, true) : Option (Nat × Bool)) = o.guard ∧ [8] = (o.after.toList.filter fun e => Region.binds .any e).map (·.on) := by simpa [keyR] using hk
    have dep := E.deps hl.symm
    have hw : Region.wanted o (yielded ops26 a.tmps) = true := wanted_at hg.symm (dst_at ops26_key 8 rfl) (dep 8 (by simp))
    refine rd_pure (d := d26) (Φ := f26 x y g cap ys) ho hw hd.symm (run_load28 hop.symm (eval_old (E.old 5 (fun i hi => by rw [hs] at hi; show (if i < 21 then 101 + i else 8) ≠ 5; split <;> omega)) h5) ((hO.below E.bel).rA)) ?_
    rfl
  | 14, hk =>
    obtain ⟨hd, hop, hg, hl⟩ : some 115 = o.dst ∧ Op.load 28 (.tmp 6) = o.op ∧ (some (8, true) : Option (Nat × Bool)) = o.guard ∧ [8] = (o.after.toList.filter fun e => Region.binds .any e).map (·.on) := by simpa [keyR] using hk
    have dep := E.deps hl.symm
    have hw : Region.wanted o (yielded ops26 a.tmps) = true := wanted_at hg.symm (dst_at ops26_key 8 rfl) (dep 8 (by simp))
    refine rd_pure (d := d26) (Φ := f26 x y g cap ys) ho hw hd.symm (run_load28 hop.symm (eval_old (E.old 6 (fun i hi => by rw [hs] at hi; show (if i < 21 then 101 + i else 8) ≠ 6; split <;> omega)) h6) ((hO.below E.bel).rB)) ?_
    rfl
  | 15, hk =>
    obtain ⟨hd, hop, hg, hl⟩ : some 116 = o.dst ∧ Op.buildSlice 51 0 #[] = o.op ∧ (some (8, true) : Option (Nat × Bool)) = o.guard ∧ [8] = (o.after.toList.filter fun e => Region.binds .any e).map (·.on) := by simpa [keyR] using hk
    have dep := E.deps hl.symm
    have hw : Region.wanted o (yielded ops26 a.tmps) = true := wanted_at hg.symm (dst_at ops26_key 8 rfl) (dep 8 (by simp))
    refine rd_run (d := d26) (Φ := f26 x y g cap ys) ho hw hd.symm (run_empty hop.symm) (allocB _ _) ?_
    exact ⟨_, rfl⟩
  | 16, hk =>
    obtain ⟨hd, hop, hg, hl⟩ : some 117 = o.dst ∧ Op.move (.tmp 16) = o.op ∧ (some (8, true) : Option (Nat × Bool)) = o.guard ∧ [8] = (o.after.toList.filter fun e => Region.binds .any e).map (·.on) := by simpa [keyR] using hk
    have dep := E.deps hl.symm
    have hw : Region.wanted o (yielded ops26 a.tmps) = true := wanted_at hg.symm (dst_at ops26_key 8 rfl) (dep 8 (by simp))
    refine rd_pure (d := d26) (Φ := f26 x y g cap ys) ho hw hd.symm (run_move hop.symm (eval_old (E.old 16 (fun i hi => by rw [hs] at hi; show (if i < 21 then 101 + i else 8) ≠ 16; split <;> omega)) h16)) ?_
    rfl
  | 17, hk =>
    obtain ⟨hd, hop, hg, hl⟩ : some 118 = o.dst ∧ Op.call { callee := .builtin .append, args := #[.tmp 116, .tmp 117], argTypes := #[51, 51] } = o.op ∧ (some (8, true) : Option (Nat × Bool)) = o.guard ∧ [15, 16, 12, 8] = (o.after.toList.filter fun e => Region.binds .any e).map (·.on) := by simpa [keyR] using hk
    have dep := E.deps hl.symm
    have hw : Region.wanted o (yielded ops26 a.tmps) = true := wanted_at hg.symm (dst_at ops26_key 8 rfl) (dep 8 (by simp))
    obtain ⟨q, e0⟩ : ∃ q, a.eval (.tmp 116) = .slice (some q) 0 0 := dep 15 (by simp)
    have e1 : a.eval (.tmp 117) = .slice (some ⟨g, 0, none⟩) ys.length cap := dep 16 (by simp)
    obtain ⟨v', w', hr, hb, q', c', rfl, ht⟩ := run_app hop.symm e0 e1 ((hO.below E.bel).thr hbig) hb8
    refine rd_run (d := d26) (Φ := f26 x y g cap ys) ho hw hd.symm hr hb ?_
    exact ⟨q', c', rfl, ht⟩
  | 18, hk =>
    obtain ⟨hd, hop, hg, hl⟩ : some 119 = o.dst ∧ Op.call { callee := .value (.func 43), args := #[.tmp 114, .tmp 115, .tmp 118], argTypes := #[28, 28, 51] } = o.op ∧ (some (8, true) : Option (Nat × Bool)) = o.guard ∧ [13, 14, 17, 17, 8] = (o.after.toList.filter fun e => Region.binds .any e).map (·.on) := by simpa [keyR] using hk
    have dep := E.deps hl.symm
    have hw : Region.wanted o (yielded ops26 a.tmps) = true := wanted_at hg.symm (dst_at ops26_key 8 rfl) (dep 8 (by simp))
    have e0 : a.eval (.tmp 114) = nvx x := dep 13 (by simp)
    have e1 : a.eval (.tmp 115) = nvx y := dep 14 (by simp)
    obtain ⟨q, c, e2, hq⟩ : ∃ q c, a.eval (.tmp 118) = .slice q ys.length c ∧ Thr w q ys := dep 17 (by simp)
    refine rd_call (d := d26) (Φ := f26 x y g cap ys) ho hw hd.symm (f := 43) (args := #[nvx x, nvx y, .slice q ys.length c]) (v := nvx (widN (normS x) (normS y) ys)) ?_ ?_ (fun _ _ => rfl)
    · have he := run_enter (a := a) (w := w) Tryz.func43 (by kernel_rfl) hop.symm
      simp only [List.map_toArray, List.map_cons, List.map_nil, e0, e1, e2] at he
      exact he
    · exact nwid2_walk (gok_b hG (Nat.le_refl _) (hO.below E.bel).bel) (hq) hx hy
  | 19, hk =>
    obtain ⟨hd, hop, hg, hl⟩ : some 120 = o.dst ∧ Op.binOp .eql 28 (.tmp 113) (.tmp 119) 28 = o.op ∧ (some (8, true) : Option (Nat × Bool)) = o.guard ∧ [12, 18, 8] = (o.after.toList.filter fun e => Region.binds .any e).map (·.on) := by simpa [keyR] using hk
    have dep := E.deps hl.symm
    have hw : Region.wanted o (yielded ops26 a.tmps) = true := wanted_at hg.symm (dst_at ops26_key 8 rfl) (dep 8 (by simp))
    have e0 : a.eval (.tmp 113) = nvx (widN (normS x) (normS y) ys) := dep 12 (by simp)
    have e1 : a.eval (.tmp 119) = nvx (widN (normS x) (normS y) ys) := dep 18 (by simp)
    refine rd_pure (d := d26) (Φ := f26 x y g cap ys) ho hw hd.symm (run_eq28 hop.symm e0 e1) ?_
    rfl
  | 20, hk =>
    obtain ⟨hd, hop, hg, hl⟩ : some 121 = o.dst ∧ Op.pick (.tmp 109) (.tmp 120) (.const (.bool false)) = o.op ∧ (none : Option (Nat × Bool)) = o.guard ∧ [8, 19] = (o.after.toList.filter fun e => Region.binds .any e).map (·.on) := by simpa [keyR] using hk
    have dep := E.deps hl.symm
    have hw : Region.wanted o (yielded ops26 a.tmps) = true := wanted_none hg.symm
    have e0 : a.eval (.tmp 109) = .bool true := dep 8 (by simp)
    have e1 : a.eval (.tmp 120) = .bool true := dep 19 (by simp)
    refine rd_pure (d := d26) (Φ := f26 x y g cap ys) ho hw hd.symm (run_pick hop.symm e0 e1) ?_
    rfl
  | 21, hk =>
    obtain ⟨hd, hop, hg, hl⟩ : some 8 = o.dst ∧ Op.assign (.tmp 121) = o.op ∧ (none : Option (Nat × Bool)) = o.guard ∧ [20, 18, 0, 1, 2, 3, 4, 5, 6, 7, 8, 9, 10, 11, 12, 13, 14, 15, 16, 17, 18, 19, 20] = (o.after.toList.filter fun e => Region.binds .any e).map (·.on) := by simpa [keyR] using hk
    have dep := E.deps hl.symm
    have hw : Region.wanted o (yielded ops26 a.tmps) = true := wanted_none hg.symm
    have e0 : a.eval (.tmp 121) = .bool true := dep 20 (by simp)
    refine rd_pure (d := d26) (Φ := f26 x y g cap ys) ho hw hd.symm (run_assign hop.symm e0) ?_
    rfl
  | j + 22, hk => simp at hk
end Go.Proofs.YtonpbbhlmapbdaaGreatDoor.V
