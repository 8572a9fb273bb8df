/- word.Parse: its deferred function where the body has panicked with a refusal. Conditions: none. -/
import Derived.Test.YtfcgmfefdgcmjaaDoorS1
set_option linter.unusedVariables false
set_option linter.unusedSimpArgs false
namespace Go.Proofs.YtfcgmfefdgcmjaaDoor.V
open Go Go.RowKit Go.Wk
noncomputable section

theorem wpOpsS_rec2 {P : Program} {ops : Array Oper} {Q : Exit → Act → List Frame → World → Prop} {cs cs' : List Frame} {a : Act} {w w' : World} {i : Nat} {rest : List Nat} {o : Oper} {d : Option Tmp} {v : Value} (ho : ops[i]? = some o) (hg : o.guard = none) (hd : o.dst = d)
    (hr : (execOp a.eval o).run P w = .ok .recover w') (hn : recoverD cs = some (v, cs')) (h : wpOpsS P ops Q rest (a.put d v) cs' w') : wpOpsS P ops Q (i :: rest) a cs w := by
  have hw : Region.wanted o (yielded ops a.tmps) = true := by simp [Region.wanted, hg]
  subst hd
  simp only [wpOpsS, ho, hw, if_true, hr, hn]; exact h
theorem wpOpsS_two2 {P : Program} {ops : Array Oper} {Q : Exit → Act → List Frame → World → Prop} {cs cs' : List Frame} {a : Act} {w : World} {n : Nat} (hsz : ops.size = n + 2) (hq : ¬ LetsOut (fun e a' w' => Q e a' cs' w'))
    {o0 o1 : Oper} {d0 d1 : Option Tmp} {v u : Value} (h0 : ops[0]? = some o0) (g0 : o0.guard = none) (e0 : o0.dst = d0) (r0 : (execOp a.eval o0).run P w = .ok .recover w) (hn : recoverD cs = some (u, cs'))
    (h1 : ops[1]? = some o1) (g1 : o1.guard = none) (e1 : o1.dst = d1) (r1 : (execOp (a.put d0 u).eval o1).run P w = .ok (.value v) w)
    (h : wpList P ops (fun e a' w' => Q e a' cs' w') (ops.toList.drop 2) ((a.put d0 u).put d1 v) w) : wpOpsS P ops Q (List.range ops.size) a cs w := by
  rw [hsz, List.range_eq_range', List.range'_succ, List.range'_succ]
  exact wpOpsS_rec2 h0 g0 e0 r0 hn (wpOpsS_val h1 g1 e1 r1 (wpOpsS_list hq 2 n (by omega) h))
def kS : Xt → St → Option St
  | .nrm, s => some s
  | _, _ => none
theorem kS_nrm {e : Xt} {s r : St} (h : kS e s = some r) : e = .nrm ∧ s = r := by cases e <;> simp [kS] at h; exact ⟨rfl, h⟩
/-- a deferred function that begins so and finds a panic -/
theorem deferred_caught {P : Program} {f : FuncId} {fn : Func} {ops : Array Oper} {c : Code} {args : Array Value} {w : World} {n nb base : Nat} {ρ : Nat → Nat} {st st' r : St} {o0 o1 : Oper} {d0 d1 : Option Tmp} {v u : Value} {d : Nat} {older : List PanicEntry}
    (hM : P.follows .mixedOrders = true) (hN : NoCount P) (hf : P.funcs[f]? = some fn) (hb : fn.body = some (.seq (.region 0 ops false) c)) (hsz : ops.size = n + 2)
    (h0 : ops[0]? = some o0) (g0 : o0.guard = none) (e0 : o0.dst = d0) (r0 : ∀ e, (execOp e o0).run P w = .ok .recover w) (h1 : ops[1]? = some o1) (g1 : o1.guard = none) (e1 : o1.dst = d1)
    (r1 : (execOp (({ tmps := args ++ Array.replicate (fn.ntmps - args.size) undef, defers := [] } : Act).put d0 u).eval o1).run P w = .ok (.value v) w)
    (ht : SV.rls ρ st.tmps ((({ tmps := args ++ Array.replicate (fn.ntmps - args.size) undef, defers := [] } : Act).put d0 u).put d1 v).tmps.toList)
    {sv : List (List Value)} (hsv : rlss ρ st.saved sv) (hmr : MRel [] base ρ st.blks w) (hx : exOps (R := St) P [] (tab []) (recNone St) ops (ops.toList.drop 2) nb st (fun s => some s) = some st')
    (hc : ex (R := St) P [] (tab []) {} d c st' kS = some r) (hr : ∀ t w, (results fn t).run P w = .ok (.tuple #[]) w) :
    CallsD P f args (.panicking ({ v := u, recovered := false } :: older)) w fun e u' w' => e = .returned (.tuple #[]) ∧ u' = .panicking ({ v := u, recovered := true } :: older) ∧ Below base w w' ∧ ∃ (ρ' : Nat → Nat) (a' : Act), SRel [] base ρ' r a' sv w' := by
  refine callsD_of_wpS hf hb fun c₀ cs hu => ?_
  have hrec : recoverD (c₀ :: cs) = some (u, { c₀ with mode := .panicking ({ v := u, recovered := true } :: older) } :: cs) := by simp [recoverD, hu]
  apply wpS_seq
  apply wpS_region
  refine wpOpsS_two2 hsz ?_ h0 g0 e0 (r0 _) hrec h1 g1 e1 r1 ?_
  · rintro ⟨a, w', h⟩
    simp only [Exit.thenS, bodyPostS] at h
    obtain ⟨_, h, _⟩ := h
    cases h
  refine exOps_wp (base := base) (G := []) (T := tab []) (sv := sv) hN TabOK_nil recNone_ok (ops.toList.drop 2) nb st ρ _ w ?_ hx ?_
  · exact ⟨ht, by rw [put_df, put_df], hsv, hmr⟩
  · intro st2 ρ' a' w' hk S' hB
    simp only [Option.some.injEq] at hk
    subst hk
    show c.wpS P _ a' ({ c₀ with mode := .panicking ({ v := u, recovered := true } :: older) } :: cs) w'
    refine wpS_of_wp ?_
    have hg := ex_sound (R := St) (G := []) (T := tab []) hM hN TabOK_nil {} d c _ _ r (fun _ => LoopsOK_nil _) hc
    refine hg base ρ' a' sv w' _ S' ?_
    intro e s2 ρ2 a2 w2 hk2 S2 hB2
    obtain ⟨rfl, rfl⟩ := kS_nrm hk2
    show bodyPostS P fn c₀ cs _ .normal a2 ({ c₀ with mode := .panicking ({ v := u, recovered := true } :: older) } :: cs) w2
    exact ⟨S2.df, _, rfl, .tuple #[], hr _ _, rfl, rfl, hB.trans hB2, ρ2, a2, S2⟩
def refusal (er at_ : Int) : Value := .agg #[.int .i64 er, .int .i64 at_]
def st33p (er at_ : Int) : St := { tmps := [.ptr 0 0, .ptr 1 0, .ptr 2 0, .val undef, .val undef, .val undef, .val (.iface 43 (refusal er at_)), .val (.tuple #[refusal er at_, .bool true])] ++ undefs 7, blks := [some ⟨[.val (.int .i64 0)], 2⟩, some ⟨[.val (.int .i64 0)], 22⟩, some ⟨[.val (.int .i64 0)], 3⟩, none], saved := [[.ptr 0 0, .ptr 1 0, .ptr 2 0]] }
def st33q (er at_ : Int) : St := { tmps := [.ptr 0 0, .ptr 1 0, .ptr 2 0, .ptr 3 0, .val (.bool true), .val (.tuple #[refusal er at_, .bool true]), .val (.iface 43 (refusal er at_)), .val (.tuple #[refusal er at_, .bool true]), .val (refusal er at_), .val (.bool true)] ++ undefs 5, blks := [some ⟨[.val (.int .i64 0)], 2⟩, some ⟨[.val (.int .i64 0)], 22⟩, some ⟨[.val (.int .i64 0)], 3⟩, some ⟨[.val (.int .i64 er), .val (.int .i64 at_)], 43⟩], saved := [[.ptr 0 0, .ptr 1 0, .ptr 2 0]] }
theorem run33p (er at_ : Int) : exOps (R := St) P [] (tab []) (recNone St) ops33 (ops33.toList.drop 2) 3 (st33p er at_) (fun s => some s) = some (st33q er at_) := by kernel_rfl
def st33r (er at_ : Int) : St := { tmps := [.ptr 0 0, .ptr 1 0, .ptr 2 0, .ptr 3 0, .val (.bool true), .val (.tuple #[refusal er at_, .bool true]), .val (.iface 43 (refusal er at_)), .val (.tuple #[refusal er at_, .bool true]), .val (refusal er at_), .val (.bool true), .val (.bool true), .ptr 3 0, .val (.int .i64 er), .ptr 3 1, .val (.int .i64 at_)], blks := [some ⟨[.val (.int .i64 0)], 2⟩, some ⟨[.val (.int .i64 er)], 22⟩, some ⟨[.val (.int .i64 at_)], 3⟩, some ⟨[.val (.int .i64 er), .val (.int .i64 at_)], 43⟩], saved := [[.ptr 0 0, .ptr 1 0, .ptr 2 0]] }
theorem rest33p (er at_ : Int) : ex (R := St) P [] (tab []) {} 8 rest33 (st33q er at_) kS = some (st33r er at_) := by kernel_rfl
theorem opRun1' {o : Oper} (ho : o.op = .typeAssert (.tmp 6) 20 43 true) (e : Operand → Value) (w : World) (er at_ : Int) (h : e (.tmp 6) = .iface 43 (refusal er at_)) : (execOp e o).run P w = .ok (.value (.tuple #[refusal er at_, .bool true])) w := by
  have h2 : (Instr.typeAssert (.iface 43 (refusal er at_)) 20 43 true).run P w = .ok (.tuple #[refusal er at_, .bool true]) w := by kernel_rfl
  unfold execOp
  rw [ho]
  simp only [h, Sem.run_bind, h2, Result.andThen_ok, Sem.run_pure]
theorem act33_6' (p1 p2 p3 u : Value) : ((act33 p1 p2 p3).put (some 6) u).eval (.tmp 6) = u := by kernel_rfl
theorem act33_7' (p1 p2 p3 u v : Value) : (((act33 p1 p2 p3).put (some 6) u).put (some 7) v).tmps.toList = [p1, p2, p3, undef, undef, undef, u, v, undef, undef, undef, undef, undef, undef, undef] := by kernel_rfl
def pA (b : Nat) : Value := .pointer (some ⟨b, 0, none⟩)
theorem parse1_caught {n0 b1 b2 b3 : Nat} (g1 : n0 ≤ b1) (g2 : n0 ≤ b2) (g3 : n0 ≤ b3) (n12 : b1 ≠ b2) (n13 : b1 ≠ b3) (n23 : b2 ≠ b3) (er at_ : Int) (older : List PanicEntry) (w : World) (hs : n0 ≤ w.heap.size)
    (h1 : w.heap[b1]? = some (.cells #[.int .i64 0] 2 (0, 0))) (h2 : w.heap[b2]? = some (.cells #[.int .i64 0] 22 (0, 0))) (h3 : w.heap[b3]? = some (.cells #[.int .i64 0] 3 (0, 0))) :
    CallsD P 33 #[pA b1, pA b2, pA b3] (.panicking ({ v := .iface 43 (refusal er at_), recovered := false } :: older)) w fun e u' w' => e = .returned (.tuple #[]) ∧ u' = .panicking ({ v := .iface 43 (refusal er at_), recovered := true } :: older) ∧
      Below n0 w w' ∧ w'.cell? ⟨b1, 0, none⟩ = some (.int .i64 0) ∧ w'.cell? ⟨b2, 0, none⟩ = some (.int .i64 er) ∧ w'.cell? ⟨b3, 0, none⟩ = some (.int .i64 at_) := by
  obtain ⟨o0, k0, q0, d0, r0⟩ := opAt0
  obtain ⟨o1, k1, q1, d1, p1'⟩ := opAt1
  have M : MRel [] n0 (fun i => if i = 0 then b1 else if i = 1 then b2 else b3) (st33p er at_).blks w := by
    refine ⟨by intro g cs h; simp at h, by intro g cs h; simp at h, ?_, ?_, hs⟩
    · intro i b hb
      match i, hb with
      | 0, hb => simp only [st33p, blk?, Option.some.injEq] at hb; subst hb; exact ⟨[.int .i64 0], by simpa using h1, rls_vals [.int .i64 0], by simpa using g1⟩
      | 1, hb => simp only [st33p, blk?, Option.some.injEq] at hb; subst hb; exact ⟨[.int .i64 0], by simpa using h2, rls_vals [.int .i64 0], by simpa using g2⟩
      | 2, hb => simp only [st33p, blk?, Option.some.injEq] at hb; subst hb; exact ⟨[.int .i64 0], by simpa using h3, rls_vals [.int .i64 0], by simpa using g3⟩
      | 3, hb => simp [st33p, blk?] at hb
      | i + 4, hb => simp [st33p, blk?] at hb
    · intro i j b c hi hj he
      have lt : ∀ i b, blk? (st33p er at_).blks i = some b → i < 3 := by
        intro i b h
        match i, h with
        | 0, _ => omega
        | 1, _ => omega
        | 2, _ => omega
        | 3, h => simp [st33p, blk?] at h
        | i + 4, h => simp [st33p, blk?] at h
      have li := lt i b hi
      have lj := lt j c hj
      match i, j, li, lj with
      | 0, 0, _, _ => rfl
      | 1, 1, _, _ => rfl
      | 2, 2, _, _ => rfl
      | 0, 1, _, _ => exact absurd he (by simpa using n12)
      | 0, 2, _, _ => exact absurd he (by simpa using n13)
      | 1, 0, _, _ => exact absurd he (by simpa using n12.symm)
      | 1, 2, _, _ => exact absurd he (by simpa using n23)
      | 2, 0, _, _ => exact absurd he (by simpa using n13.symm)
      | 2, 1, _, _ => exact absurd he (by simpa using n23.symm)
  refine (deferred_caught (n := 6) (nb := 3) (st := st33p er at_) (r := st33r er at_) (sv := [[pA b1, pA b2, pA b3]]) (older := older) hM C.names Tryd.func33 body33 (by kernel_rfl) k0 q0 d0 (fun e => r0 e w) k1 q1 d1
    (opRun1' p1' _ w er at_ (act33_6' (pA b1) (pA b2) (pA b3) _)) ?_ ?_ M (run33p er at_) (rest33p er at_) res33).mono ?_
  · have e := act33_7' (pA b1) (pA b2) (pA b3) (.iface 43 (refusal er at_)) (.tuple #[refusal er at_, .bool true])
    unfold act33 at e
    rw [e]
    simp only [st33p, undefs, List.cons_append, List.nil_append, SV.rls, SV.rl, pA, and_true, true_and]
    simp
  · simp only [st33p, rlss, SV.rls, SV.rl, pA, and_true]
    simp
  · rintro e u' w' ⟨he, hu, hb, ρ', a', S⟩
    refine ⟨he, hu, hb, ?_⟩
    have hv := S.svd
    simp only [st33r, rlss, SV.rls, SV.rl, pA, and_true, Value.pointer.injEq, Option.some.injEq, Addr.mk.injEq, true_and] at hv
    obtain ⟨e1, e2, e3⟩ := hv
    have cell : ∀ i t x, blk? (st33r er at_).blks i = some ⟨[.val x], t⟩ → w'.cell? ⟨ρ' i, 0, none⟩ = some x := by
      intro i t x h
      obtain ⟨xs, hh, hr, _⟩ := S.M.bk i _ h
      match xs, hr with
      | [y], hr =>
        simp only [SV.rls, SV.rl, and_true] at hr
        subst hr
        simp [World.cell?, hh]
      | [], hr => simp [SV.rls] at hr
      | _ :: _ :: _, hr => simp [SV.rls] at hr
    refine ⟨?_, ?_, ?_⟩
    · have := cell 0 2 _ rfl; rwa [← e1] at this
    · have := cell 1 22 _ rfl; rwa [← e2] at this
    · have := cell 2 3 _ rfl; rwa [← e3] at this
end
end Go.Proofs.YtfcgmfefdgcmjaaDoor.V
