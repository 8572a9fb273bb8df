/- word.Parse: its deferred function finds nothing to recover where the body returns. Conditions: none. -/
import Derived.Test.YtfcgmfefdgcmjaaDoorB
import Derived.WalkKit
import Derived.Defers
import Derived.Recover
import Derived.Laws.Pointers
import Derived.Laws.NewBlocks
import Derived.Below
set_option linter.unusedVariables false
set_option linter.unusedSimpArgs false
namespace Go.Proofs.YtfcgmfefdgcmjaaDoor.V
open Go Go.RowKit Go.Wk

/-- operations that do not recover, by the plain laws -/
theorem wpOpsS_plain {P : Program} {ops : Array Oper} {Q : Exit → Act → List Frame → World → Prop} {cs : List Frame} (hq : ¬ LetsOut (fun e a' w' => Q e a' cs w')) : ∀ (l : List Nat) (a : Act) (w : World),
    wpOps P ops (fun e a' w' => Q e a' cs w') l a w → wpOpsS P ops Q l a cs w
  | [], a, w, h => h
  | i :: rest, a, w, h => by
    simp only [wpOps] at h
    simp only [wpOpsS]
    cases ho : ops[i]? with
    | none => simp only [ho] at h ⊢; exact wpOpsS_plain hq rest a w h
    | some o =>
      simp only [ho] at h ⊢
      by_cases hw : Region.wanted o (yielded ops a.tmps) = true
      · simp only [hw, if_true] at h ⊢
        rcases h with h | ⟨_, h⟩
        · have h2 := Oper.wp_mono (K' := fun a' w' => wpOpsS P ops Q rest a' cs w') (fun a' w' hh => wpOpsS_plain hq rest a' w' hh) h
          unfold Oper.wp at h2
          split
          · rename_i w' hr
            rw [hr] at h2
            exact h2.elim
          · exact h2
        · exact absurd h hq
      · simp only [hw, if_false, Bool.false_eq_true] at h ⊢
        exact wpOpsS_plain hq rest _ w h
theorem wpOpsS_list {P : Program} {ops : Array Oper} {Q : Exit → Act → List Frame → World → Prop} {cs : List Frame} {a : Act} {w : World} (hq : ¬ LetsOut (fun e a' w' => Q e a' cs w')) (k n : Nat) (hk : k + n = ops.size)
    (h : wpList P ops (fun e a' w' => Q e a' cs w') (ops.toList.drop k) a w) : wpOpsS P ops Q (List.range' k n) a cs w := by
  refine wpOpsS_plain hq _ a w ?_
  have e : n = (ops.toList.drop k).length := by simp; omega
  rw [e, wpOps_eq_wpList (ops.toList.drop k) k (by intro j; simp)]
  exact h


theorem wpOpsS_rec {P : Program} {ops : Array Oper} {Q : Exit → Act → List Frame → World → Prop} {cs : List Frame} {a : Act} {w w' : World} {i : Nat} {rest : List Nat} {o : Oper} {d : Option Tmp} (ho : ops[i]? = some o) (hg : o.guard = none) (hd : o.dst = d)
    (hr : (execOp a.eval o).run P w = .ok .recover w') (hn : recoverD cs = none) (h : wpOpsS P ops Q rest (a.put d .nilIface) cs w') : wpOpsS P ops Q (i :: rest) a cs w := by
  have hw : Region.wanted o (yielded ops a.tmps) = true := by simp [Region.wanted, hg]
  subst hd
  simp only [wpOpsS, ho, hw, if_true, hr, hn]; exact h
theorem wpOpsS_val {P : Program} {ops : Array Oper} {Q : Exit → Act → List Frame → World → Prop} {cs : List Frame} {a : Act} {w w' : World} {i : Nat} {rest : List Nat} {o : Oper} {v : Value} {d : Option Tmp} (ho : ops[i]? = some o) (hg : o.guard = none) (hd : o.dst = d)
    (hr : (execOp a.eval o).run P w = .ok (.value v) w') (h : wpOpsS P ops Q rest (a.put d v) cs w') : wpOpsS P ops Q (i :: rest) a cs w := by
  have hw : Region.wanted o (yielded ops a.tmps) = true := by simp [Region.wanted, hg]
  subst hd
  simp only [wpOpsS, ho, hw, if_true, hr, Oper.upon]; exact h

/-! the deferred function -/
noncomputable section
noncomputable def ro : Code → Array Oper
  | .region _ ops _ => ops
  | _ => #[]
noncomputable def cl : Code → Code
  | .seq a _ => a
  | c => c
noncomputable def cr : Code → Code
  | .seq _ b => b
  | c => c
def kN : Xt → St → Option Unit
  | .nrm, _ => some ()
  | _, _ => none
def recNone (R : Type) : Code → St → (Xt → St → Option R) → Option R := fun _ _ _ => none
theorem recNone_ok {P : Program} {G : Glob} {R : Type} : RecOK (R := R) P G [] (recNone R) := fun c st k r _ h => by simp [recNone] at h
def ops33 : Array Oper := ro (cl (fbody Tryd.f33))
def rest33 : Code := cr (fbody Tryd.f33)
def st33 (p1 p2 p3 : Value) : St := { tmps := [.val p1, .val p2, .val p3, .val undef, .val undef, .val undef, .val .nilIface, .val (.tuple #[.agg #[.int .i64 0, .int .i64 0], .bool false])] ++ undefs 7, blks := [none], saved := [] }
def st33' (p1 p2 p3 : Value) : St := { tmps := [.val p1, .val p2, .val p3, .ptr 0 0, .val (.bool false), .val (.tuple #[.agg #[.int .i64 0, .int .i64 0], .bool false]), .val .nilIface, .val (.tuple #[.agg #[.int .i64 0, .int .i64 0], .bool false]), .val (.agg #[.int .i64 0, .int .i64 0]), .val (.bool false)] ++ undefs 5, blks := [some ⟨[.val (.int .i64 0), .val (.int .i64 0)], 43⟩], saved := [] }
theorem run33 (p1 p2 p3 : Value) : exOps (R := St) P [] (tab []) (recNone St) ops33 (ops33.toList.drop 2) 0 (st33 p1 p2 p3) (fun s => some s) = some (st33' p1 p2 p3) := by kernel_rfl
theorem rest33_ex (p1 p2 p3 : Value) : ex (R := Unit) P [] (tab []) {} 8 rest33 (st33' p1 p2 p3) kN = some () := by kernel_rfl
theorem kN_nrm {e : Xt} {s : St} (h : kN e s = some ()) : e = .nrm := by cases e <;> first | rfl | (simp [kN] at h)
theorem hM : P.follows .mixedOrders = true := C.mixed
theorem body33 : Tryd.f33.body = some (.seq (.region 0 ops33 false) rest33) := by kernel_rfl
theorem opAt0 : ∃ o, ops33[0]? = some o ∧ o.guard = none ∧ o.dst = some 6 ∧ ∀ (e : Operand → Value) (w : World), (execOp e o).run P w = .ok .recover w := ⟨_, rfl, rfl, rfl, fun e w => by kernel_rfl⟩
theorem opAt1 : ∃ o, ops33[1]? = some o ∧ o.guard = none ∧ o.dst = some 7 ∧ o.op = .typeAssert (.tmp 6) 20 43 true := ⟨_, rfl, rfl, rfl, rfl⟩
theorem opRun1 {o : Oper} (ho : o.op = .typeAssert (.tmp 6) 20 43 true) (e : Operand → Value) (w : World) (h : e (.tmp 6) = .nilIface) : (execOp e o).run P w = .ok (.value (.tuple #[.agg #[.int .i64 0, .int .i64 0], .bool false])) w := by
  have h2 : (Instr.typeAssert Value.nilIface 20 43 true).run P w = .ok (.tuple #[.agg #[.int .i64 0, .int .i64 0], .bool false]) w := by kernel_rfl
  unfold execOp
  rw [ho]
  simp only [h, Sem.run_bind, h2, Result.andThen_ok, Sem.run_pure]
theorem res33 (t : Array Value) (w : World) : (results Tryd.f33 t).run P w = .ok (.tuple #[]) w := by kernel_rfl

noncomputable def act33 (p1 p2 p3 : Value) : Act := { tmps := #[p1, p2, p3] ++ Array.replicate (Tryd.f33.ntmps - #[p1, p2, p3].size) undef, defers := [] }
theorem act33_6 (p1 p2 p3 : Value) : ((act33 p1 p2 p3).put (some 6) .nilIface).eval (.tmp 6) = .nilIface := by kernel_rfl
theorem act33_7 (p1 p2 p3 v : Value) : (((act33 p1 p2 p3).put (some 6) .nilIface).put (some 7) v).tmps.toList = [p1, p2, p3, undef, undef, undef, .nilIface, v, undef, undef, undef, undef, undef, undef, undef] := by kernel_rfl
/-- two operations, then plain ones -/
theorem wpOpsS_two {P : Program} {ops : Array Oper} {Q : Exit → Act → List Frame → World → Prop} {cs : List Frame} {a : Act} {w : World} {n : Nat} (hsz : ops.size = n + 2) (hq : ¬ LetsOut (fun e a' w' => Q e a' cs w'))
    {o0 o1 : Oper} {d0 d1 : Option Tmp} {v : Value} (h0 : ops[0]? = some o0) (g0 : o0.guard = none) (e0 : o0.dst = d0) (r0 : (execOp a.eval o0).run P w = .ok .recover w) (hn : recoverD cs = none)
    (h1 : ops[1]? = some o1) (g1 : o1.guard = none) (e1 : o1.dst = d1) (r1 : (execOp (a.put d0 .nilIface).eval o1).run P w = .ok (.value v) w)
    (h : wpList P ops (fun e a' w' => Q e a' cs w') (ops.toList.drop 2) ((a.put d0 .nilIface).put d1 v) w) : wpOpsS P ops Q (List.range ops.size) a cs w := by
  rw [hsz, List.range_eq_range', List.range'_succ, List.range'_succ]
  exact wpOpsS_rec h0 g0 e0 r0 hn (wpOpsS_val h1 g1 e1 r1 (wpOpsS_list hq 2 n (by omega) h))
/-- a deferred function that begins so, by evaluation of the rest -/
theorem deferred_two {P : Program} {f : FuncId} {fn : Func} {ops : Array Oper} {c : Code} {args : Array Value} {w : World} {n : Nat} {st st' : St} {o0 o1 : Oper} {d0 d1 : Option Tmp} {v : Value} {d : Nat}
    (hM : P.follows .mixedOrders = true) (hN : NoCount P) (hf : P.funcs[f]? = some fn) (hb : fn.body = some (.seq (.region 0 ops false) c)) (hsz : ops.size = n + 2)
    (h0 : ops[0]? = some o0) (g0 : o0.guard = none) (e0 : o0.dst = d0) (r0 : ∀ e, (execOp e o0).run P w = .ok .recover w) (h1 : ops[1]? = some o1) (g1 : o1.guard = none) (e1 : o1.dst = d1)
    (r1 : (execOp (({ tmps := args ++ Array.replicate (fn.ntmps - args.size) undef, defers := [] } : Act).put d0 .nilIface).eval o1).run P w = .ok (.value v) w)
    (ht : SV.rls id st.tmps ((({ tmps := args ++ Array.replicate (fn.ntmps - args.size) undef, defers := [] } : Act).put d0 .nilIface).put d1 v).tmps.toList) (hd : d0.isSome = true ∧ d1.isSome = true)
    (hsv : st.saved = []) (hbl : ∀ i, blk? st.blks i = none) (hx : exOps (R := St) P [] (tab []) (recNone St) ops (ops.toList.drop 2) 0 st (fun s => some s) = some st')
    (hc : ex (R := Unit) P [] (tab []) {} d c st' kN = some ()) (hr : ∀ t w, (results fn t).run P w = .ok (.tuple #[]) w) :
    CallsD P f args .returning w fun e u' w' => e = .returned (.tuple #[]) ∧ u' = .returning ∧ Below w.heap.size w w' := by
  refine callsD_of_wpS hf hb fun c₀ cs hu => ?_
  have hmode : ({ c₀ with mode := .returning } : Frame) = c₀ := by cases c₀; simp_all
  have hrec : recoverD (c₀ :: cs) = none := by simp [recoverD, hu]
  apply wpS_seq
  apply wpS_region
  refine wpOpsS_two hsz ?_ h0 g0 e0 (r0 _) hrec h1 g1 e1 r1 ?_
  · rintro ⟨a, w', h⟩
    simp only [Exit.thenS, bodyPostS] at h
    obtain ⟨_, h, _⟩ := h
    cases h
  refine exOps_wp (base := w.heap.size) (G := []) (T := tab []) (sv := []) hN TabOK_nil recNone_ok (ops.toList.drop 2) 0 st id _ w ?_ hx ?_
  · refine ⟨ht, ?_, by rw [hsv]; simp [rlss], ?_⟩
    · rw [put_df, put_df]
    · exact ⟨by intro g cs h; simp at h, by intro g cs h; simp at h, by intro i b hb; rw [hbl] at hb; simp at hb, by intro i j b c hb; rw [hbl] at hb; simp at hb, Nat.le_refl _⟩
  · intro st2 ρ' a' w' hk S' hB
    simp only [Option.some.injEq] at hk
    subst hk
    show c.wpS P _ a' (c₀ :: cs) w'
    refine wpS_of_wp ?_
    have hg := ex_sound (R := Unit) (G := []) (T := tab []) hM hN TabOK_nil {} d c _ _ () (fun _ => LoopsOK_nil _) hc
    refine hg w.heap.size ρ' a' [] w' _ S' ?_
    intro e s2 ρ2 a2 w2 hk2 S2 hB2
    obtain rfl := kN_nrm hk2
    show bodyPostS P fn c₀ cs _ .normal a2 (c₀ :: cs) w2
    refine ⟨S2.df, .returning, ?_, .tuple #[], hr _ _, rfl, rfl, hB.trans hB2⟩
    rw [hmode]
theorem parse1_idle (p1 p2 p3 : Value) (w : World) :
    CallsD P 33 #[p1, p2, p3] .returning w fun e u' w' => e = .returned (.tuple #[]) ∧ u' = .returning ∧ Below w.heap.size w w' := by
  obtain ⟨o0, h0, g0, d0, r0⟩ := opAt0
  obtain ⟨o1, h1, g1, d1, p1'⟩ := opAt1
  exact deferred_two (n := 6) hM C.names Tryd.func33 body33 (by kernel_rfl) h0 g0 d0 (fun e => r0 e w) h1 g1 d1 (opRun1 p1' _ w (act33_6 p1 p2 p3)) (by have e := act33_7 p1 p2 p3 (.tuple #[.agg #[.int .i64 0, .int .i64 0], .bool false]); unfold act33 at e; rw [e]; exact rls_vals [p1, p2, p3, undef, undef, undef, .nilIface, .tuple #[.agg #[.int .i64 0, .int .i64 0], .bool false], undef, undef, undef, undef, undef, undef, undef]) ⟨rfl, rfl⟩ rfl (fun i => by rcases i with _ | _ | i <;> rfl) (run33 p1 p2 p3) (rest33_ex p1 p2 p3) res33
end
end Go.Proofs.YtfcgmfefdgcmjaaDoor.V
