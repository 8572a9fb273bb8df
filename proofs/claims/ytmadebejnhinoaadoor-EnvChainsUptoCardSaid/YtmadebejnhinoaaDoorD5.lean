/- Chapter 15: what the laws compute, told by evaluation of their code. Conditions: none. -/
import Derived.Test.YtmadebejnhinoaaDoorD4
set_option linter.unusedVariables false
set_option linter.unusedSimpArgs false
set_option maxRecDepth 100000
set_option maxHeartbeats 4000000
namespace Go.Proofs.YtmadebejnhinoaaDoor.V
open Go Go.Wk Go.RowKit
noncomputable section

def law_EnvChains.val (q : Bool) : SV := .val (.bool (q))
def law_EnvChains.h : List (Nat × List Nat × Nat) := [(5, [1, 2, 3, 7, 8, 9], 1)]
def law_EnvChains.e0 (q : List (cE).T × List (cI64).T × Int × Int × Int × Bool × List (cN).T × List (cN).T) : St := { tmps := [.unk, .dl (cE) (q).1, .dl (cI64) (q).2.1, .ptr 0 0, .unk, .unk, .unk, .val (.int .i64 (q).2.2.1), .val (.int .i64 (q).2.2.2.1), .val (.int .i64 (q).2.2.2.2.1), .unk, .unk, .unk, .unk, .unk, .unk, .unk, .unk, .unk, .unk, .unk, .unk, .unk, .unk, .unk, .unk, .unk, .unk, .unk, .unk, .unk, .unk, .unk, .unk, .unk, .unk, .unk, .unk, .unk, .unk, .unk, .unk, .unk, .unk, .unk, .unk, .unk, .unk, .unk, .unk, .unk, .unk, .unk, .unk, .unk, .unk, .unk, .unk, .unk, .unk, .unk, .unk, .unk, .unk, .unk, .unk, .unk, .unk, .unk, .unk, .unk, .unk, .unk, .unk, .unk, .unk, .unk, .unk, .unk, .unk], blks := [some ⟨[.val (.bool (q).2.2.2.2.2.1), .dl (cN) (q).2.2.2.2.2.2.1, .dl (cN) (q).2.2.2.2.2.2.2], 24⟩], saved := [] }
noncomputable def law_EnvChains.B0 : Code := loopAt [1, 1, 1, 1, 0, 1, 0] (fbody Tryd.f4)
noncomputable def law_EnvChains.H (F0 : LSum) : Heads := { heads := law_EnvChains.h, merge := true, glue := true, sums := [(5, F0)] }
noncomputable def law_EnvChains.H0  : Heads := { heads := law_EnvChains.h, merge := true, glue := true, sums := [] }
noncomputable def law_EnvChains.K0 (F0 : LSum) : Xt → St → Option SV := kAt P G (tab L_law_EnvMembers) (law_EnvChains.H F0) [1, 1, 1, 1, 0, 1, 0] 60 (fbody Tryd.f4) (retX P G Tryd.f4)
def law_EnvChains.l0.c0 {γ : Type} (k0 : List (cE).T × List (cI64).T × Int × Int × Int × Bool × List (cN).T × List (cN).T → Option γ) (k : Bool → Option γ) (s1 : List (cE).T) (s2 : List (cI64).T) (s7 : Int) (s8 : Int) (s9 : Int) (b0_0 : Bool) (b0_1 : List (cN).T) (b0_2 : List (cN).T) (t1 : Bool) (t2 : Bool) (t3 : EnvP) (t4 : EnvP) (t5 : Bool) (t6 : List Nm) (t7 : List Nm) (t8 : Bool) (t9 : EnvP) (t10 : Bool) (t11 : EnvP) (t12 : Bool) (t13 : Bool) (t14 : Bool) (t15 : Int) (t16 : EnvP) (t17 : Bool) (t18 : List Nm) (t19 : List Nm) (t20 : Bool) (t21 : Bool) (t22 : EnvP) (t23 : EnvP) (t24 : Bool) (t25 : List Nm) (t26 : List Nm) (t27 : Bool) (t28 : EnvP) (t29 : Bool) (t30 : Int) (t31 : Int) (t32 : Bool) (t33 : Int) (t34 : Int) (t35 : Int) (t36 : Int) (t37 : Int) (t38 : Int) (t39 : Int) (t40 : Bool) : Option γ := bif decide (s9 < ((s1.length : Nat) : Int))
  then bif decide (0 ≤ s9) && decide (s9 < ((s1.length : Nat) : Int))
   then bif t1
    then bif (t2 && t8 || !(!b0_0 && true)) && true
     then bif t14
      then k0 (s1, s2, s7, s8, t15, b0_0, b0_1, b0_2)
      else bif t2 && t8
       then bif t2 && t20 && t21
        then bif t2 && t27
         then bif !t29
          then k (false)
          else bif t2 && t27
           then k0 (s1, s2, t31, t34, t15, t24, t25, t26)
           else none
         else none
        else none
       else none
     else none
    else none
   else none
  else k (t40)
def law_EnvChains.l0.c {γ : Type} (k0 : List (cE).T × List (cI64).T × Int × Int × Int × Bool × List (cN).T × List (cN).T → Option γ) (k : Bool → Option γ) (s1 : List (cE).T) (s2 : List (cI64).T) (s7 : Int) (s8 : Int) (s9 : Int) (b0_0 : Bool) (b0_1 : List (cN).T) (b0_2 : List (cN).T) : Option γ := let t1 := envOK ((s1.getD s9.toNat cE.dflt).fst, (s1.getD s9.toNat cE.dflt).snd.fst, (s1.getD s9.toNat cE.dflt).snd.snd); let t2 := envOK (b0_0, b0_1, b0_2); let t3 := toE ((s1.getD s9.toNat cE.dflt).fst, (s1.getD s9.toNat cE.dflt).snd.fst, (s1.getD s9.toNat cE.dflt).snd.snd); let t4 := normE t3; let t5 := t4.dead; let t6 := t4.vs; let t7 := t4.ars; let t8 := envOK (t5, t6, t7); let t9 := toE (b0_0, b0_1, b0_2); let t10 := t9.dead; let t11 := toE (t5, t6, t7); let t12 := t11.dead; let t13 := unlikeE t9 t11; let t14 := bif !b0_0 then !(t10 || (t12 || !t13)) else false; let t15 := IntKind.i64.wrap (s9 + 1); let t16 := joinE t9 t11; let t17 := t16.dead; let t18 := t16.vs; let t19 := t16.ars; let t20 := envOK (t17, t18, t19); let t21 := thrOK s2; let t22 := toE (t17, t18, t19); let t23 := widE s2 t9 t22; let t24 := t23.dead; let t25 := t23.vs; let t26 := t23.ars; let t27 := envOK (t24, t25, t26); let t28 := toE (t24, t25, t26); let t29 := leqE t9 t28; let t30 := IntKind.i64.wrap (((t25.length : Nat) : Int) + ((t26.length : Nat) : Int)); let t31 := if t30 > s7 then t30 else s7; let t32 := sameE t9 t28; let t33 := IntKind.i64.wrap (s8 + 1); let t34 := bif !t32 then t33 else s8; let t35 := IntKind.i64.wrap (((s2.length : Nat) : Int) + 3); let t36 := IntKind.i64.wrap (2 * t35); let t37 := IntKind.i64.wrap (t36 + 1); let t38 := IntKind.i64.wrap (s7 * t37); let t39 := IntKind.i64.wrap (t38 + 1); let t40 := bif decide (s8 ≤ t39) then true else false; law_EnvChains.l0.c0 k0 k s1 s2 s7 s8 s9 b0_0 b0_1 b0_2 t1 t2 t3 t4 t5 t6 t7 t8 t9 t10 t11 t12 t13 t14 t15 t16 t17 t18 t19 t20 t21 t22 t23 t24 t25 t26 t27 t28 t29 t30 t31 t32 t33 t34 t35 t36 t37 t38 t39 t40
def law_EnvChains.c0 {γ : Type} (k0 : List (cE).T × List (cI64).T × Int × Int × Int × Bool × List (cN).T × List (cN).T → Option γ) (k : Bool → Option γ) (ea : (cE).T) (l : List (cE).T) (z : List (cI64).T) (t1 : Bool) (t2 : EnvP) (t3 : EnvP) (t4 : List Nm) (t5 : List Nm) (t6 : Int) (t7 : Bool) : Option γ := bif t1
  then k0 (l, z, t6, 0, 0, t7, t4, t5)
  else none
def law_EnvChains.c {γ : Type} (k0 : List (cE).T × List (cI64).T × Int × Int × Int × Bool × List (cN).T × List (cN).T → Option γ) (k : Bool → Option γ) (ea : (cE).T) (l : List (cE).T) (z : List (cI64).T) : Option γ := let t1 := envOK (ea.fst, ea.snd.fst, ea.snd.snd); let t2 := toE (ea.fst, ea.snd.fst, ea.snd.snd); let t3 := normE t2; let t4 := t3.vs; let t5 := t3.ars; let t6 := IntKind.i64.wrap (((t4.length : Nat) : Int) + ((t5.length : Nat) : Int)); let t7 := t3.dead; law_EnvChains.c0 k0 k ea l z t1 t2 t3 t4 t5 t6 t7
def law_EnvChains.L0 (N : Nat)  : Nat → List (cE).T × List (cI64).T × Int × Int × Int × Bool × List (cN).T × List (cN).T → Option (Bool)
  | 0, _ => none
  | m + 1, q => law_EnvChains.l0.c (law_EnvChains.L0 N m) some (q).1 (q).2.1 (q).2.2.1 (q).2.2.2.1 (q).2.2.2.2.1 (q).2.2.2.2.2.1 (q).2.2.2.2.2.2.1 (q).2.2.2.2.2.2.2
def law_EnvChains.o (N : Nat) (ea : (cE).T) (l : List (cE).T) (z : List (cI64).T) : Option (Bool) := law_EnvChains.c (law_EnvChains.L0 N  N) some ea l z
noncomputable def law_EnvChains.S0 (N : Nat) : LSum := sumN P G (tab L_law_EnvMembers) (law_EnvChains.H0 ) 60 law_EnvChains.B0 N
theorem law_EnvChains.l0.p0 {γ δ : Type} (f : γ → δ) (k0 : List (cE).T × List (cI64).T × Int × Int × Int × Bool × List (cN).T × List (cN).T → Option γ) (k : Bool → Option γ) (s1 : List (cE).T) (s2 : List (cI64).T) (s7 : Int) (s8 : Int) (s9 : Int) (b0_0 : Bool) (b0_1 : List (cN).T) (b0_2 : List (cN).T) (t1 : Bool) (t2 : Bool) (t3 : EnvP) (t4 : EnvP) (t5 : Bool) (t6 : List Nm) (t7 : List Nm) (t8 : Bool) (t9 : EnvP) (t10 : Bool) (t11 : EnvP) (t12 : Bool) (t13 : Bool) (t14 : Bool) (t15 : Int) (t16 : EnvP) (t17 : Bool) (t18 : List Nm) (t19 : List Nm) (t20 : Bool) (t21 : Bool) (t22 : EnvP) (t23 : EnvP) (t24 : Bool) (t25 : List Nm) (t26 : List Nm) (t27 : Bool) (t28 : EnvP) (t29 : Bool) (t30 : Int) (t31 : Int) (t32 : Bool) (t33 : Int) (t34 : Int) (t35 : Int) (t36 : Int) (t37 : Int) (t38 : Int) (t39 : Int) (t40 : Bool) : law_EnvChains.l0.c0 (fun q => (k0 q).map f) (fun q => (k q).map f) s1 s2 s7 s8 s9 b0_0 b0_1 b0_2 t1 t2 t3 t4 t5 t6 t7 t8 t9 t10 t11 t12 t13 t14 t15 t16 t17 t18 t19 t20 t21 t22 t23 t24 t25 t26 t27 t28 t29 t30 t31 t32 t33 t34 t35 t36 t37 t38 t39 t40 = (law_EnvChains.l0.c0 k0 k s1 s2 s7 s8 s9 b0_0 b0_1 b0_2 t1 t2 t3 t4 t5 t6 t7 t8 t9 t10 t11 t12 t13 t14 t15 t16 t17 t18 t19 t20 t21 t22 t23 t24 t25 t26 t27 t28 t29 t30 t31 t32 t33 t34 t35 t36 t37 t38 t39 t40).map f := by
  unfold law_EnvChains.l0.c0; (repeat' (first | (apply pm f) | (exact rfl)))
theorem law_EnvChains.l0.p {γ δ : Type} (f : γ → δ) (k0 : List (cE).T × List (cI64).T × Int × Int × Int × Bool × List (cN).T × List (cN).T → Option γ) (k : Bool → Option γ) (s1 : List (cE).T) (s2 : List (cI64).T) (s7 : Int) (s8 : Int) (s9 : Int) (b0_0 : Bool) (b0_1 : List (cN).T) (b0_2 : List (cN).T) : law_EnvChains.l0.c (fun q => (k0 q).map f) (fun q => (k q).map f) s1 s2 s7 s8 s9 b0_0 b0_1 b0_2 = (law_EnvChains.l0.c k0 k s1 s2 s7 s8 s9 b0_0 b0_1 b0_2).map f :=
  let t1 := envOK ((s1.getD s9.toNat cE.dflt).fst, (s1.getD s9.toNat cE.dflt).snd.fst, (s1.getD s9.toNat cE.dflt).snd.snd); let t2 := envOK (b0_0, b0_1, b0_2); let t3 := toE ((s1.getD s9.toNat cE.dflt).fst, (s1.getD s9.toNat cE.dflt).snd.fst, (s1.getD s9.toNat cE.dflt).snd.snd); let t4 := normE t3; let t5 := t4.dead; let t6 := t4.vs; let t7 := t4.ars; let t8 := envOK (t5, t6, t7); let t9 := toE (b0_0, b0_1, b0_2); let t10 := t9.dead; let t11 := toE (t5, t6, t7); let t12 := t11.dead; let t13 := unlikeE t9 t11; let t14 := bif !b0_0 then !(t10 || (t12 || !t13)) else false; let t15 := IntKind.i64.wrap (s9 + 1); let t16 := joinE t9 t11; let t17 := t16.dead; let t18 := t16.vs; let t19 := t16.ars; let t20 := envOK (t17, t18, t19); let t21 := thrOK s2; let t22 := toE (t17, t18, t19); let t23 := widE s2 t9 t22; let t24 := t23.dead; let t25 := t23.vs; let t26 := t23.ars; let t27 := envOK (t24, t25, t26); let t28 := toE (t24, t25, t26); let t29 := leqE t9 t28; let t30 := IntKind.i64.wrap (((t25.length : Nat) : Int) + ((t26.length : Nat) : Int)); let t31 := if t30 > s7 then t30 else s7; let t32 := sameE t9 t28; let t33 := IntKind.i64.wrap (s8 + 1); let t34 := bif !t32 then t33 else s8; let t35 := IntKind.i64.wrap (((s2.length : Nat) : Int) + 3); let t36 := IntKind.i64.wrap (2 * t35); let t37 := IntKind.i64.wrap (t36 + 1); let t38 := IntKind.i64.wrap (s7 * t37); let t39 := IntKind.i64.wrap (t38 + 1); let t40 := bif decide (s8 ≤ t39) then true else false; law_EnvChains.l0.p0 f k0 k s1 s2 s7 s8 s9 b0_0 b0_1 b0_2 t1 t2 t3 t4 t5 t6 t7 t8 t9 t10 t11 t12 t13 t14 t15 t16 t17 t18 t19 t20 t21 t22 t23 t24 t25 t26 t27 t28 t29 t30 t31 t32 t33 t34 t35 t36 t37 t38 t39 t40
theorem law_EnvChains.p0 {γ δ : Type} (f : γ → δ) (k0 : List (cE).T × List (cI64).T × Int × Int × Int × Bool × List (cN).T × List (cN).T → Option γ) (k : Bool → Option γ) (ea : (cE).T) (l : List (cE).T) (z : List (cI64).T) (t1 : Bool) (t2 : EnvP) (t3 : EnvP) (t4 : List Nm) (t5 : List Nm) (t6 : Int) (t7 : Bool) : law_EnvChains.c0 (fun q => (k0 q).map f) (fun q => (k q).map f) ea l z t1 t2 t3 t4 t5 t6 t7 = (law_EnvChains.c0 k0 k ea l z t1 t2 t3 t4 t5 t6 t7).map f := by
  unfold law_EnvChains.c0; (repeat' (first | (apply pm f) | (exact rfl)))
theorem law_EnvChains.p {γ δ : Type} (f : γ → δ) (k0 : List (cE).T × List (cI64).T × Int × Int × Int × Bool × List (cN).T × List (cN).T → Option γ) (k : Bool → Option γ) (ea : (cE).T) (l : List (cE).T) (z : List (cI64).T) : law_EnvChains.c (fun q => (k0 q).map f) (fun q => (k q).map f) ea l z = (law_EnvChains.c k0 k ea l z).map f :=
  let t1 := envOK (ea.fst, ea.snd.fst, ea.snd.snd); let t2 := toE (ea.fst, ea.snd.fst, ea.snd.snd); let t3 := normE t2; let t4 := t3.vs; let t5 := t3.ars; let t6 := IntKind.i64.wrap (((t4.length : Nat) : Int) + ((t5.length : Nat) : Int)); let t7 := t3.dead; law_EnvChains.p0 f k0 k ea l z t1 t2 t3 t4 t5 t6 t7
theorem law_EnvChains.S0.ok (N : Nat) : LoopsOK P G (law_EnvChains.H0 ).sums law_EnvChains.B0 := by
  refine LoopsOK_code fun i hi F hF => ?_
  have hlen : (loopsOf law_EnvChains.B0).length = 0 := by kernel_rfl
  rw [hlen] at hi
  omega

theorem law_EnvChains.S0.snd (N : Nat) : SoundL P G law_EnvChains.B0 (law_EnvChains.S0 N) := sumN_sound C.mixed C.names law_EnvMembers.t (law_EnvChains.S0.ok N) N
theorem law_EnvChains.l0.r (F0 G0 : LSum) (s1 : List (cE).T) (s2 : List (cI64).T) (s7 : Int) (s8 : Int) (s9 : Int) (b0_0 : Bool) (b0_1 : List (cN).T) (b0_2 : List (cN).T) : ex P G (tab L_law_EnvMembers) (law_EnvChains.H0 ) 60 law_EnvChains.B0 (law_EnvChains.e0 (s1, s2, s7, s8, s9, b0_0, b0_1, b0_2)) (roundK (law_EnvChains.H0 ) law_EnvChains.B0 G0 (law_EnvChains.K0 F0)) = law_EnvChains.l0.c (fun q => G0.run (law_EnvChains.e0 q) (law_EnvChains.K0 F0)) (fun q => some (law_EnvChains.val q)) s1 s2 s7 s8 s9 b0_0 b0_1 b0_2 := by kernel_rfl
theorem law_EnvChains.r (F0 : LSum) (ea : (cE).T) (l : List (cE).T) (z : List (cI64).T) : runX P G (tab L_law_EnvMembers) (law_EnvChains.H F0) 60 Tryd.f4 [.agg (cellsD (cE) ea), .dl (cE) l, .dl (cI64) z] = law_EnvChains.c (fun q => F0.run (law_EnvChains.e0 q) (law_EnvChains.K0 F0)) (fun q => some (law_EnvChains.val q)) ea l z := by kernel_rfl
theorem law_EnvChains.L0.ok (N : Nat) (F0 : LSum)   : ∀ m q, (sumN P G (tab L_law_EnvMembers) (law_EnvChains.H0 ) 60 law_EnvChains.B0 m).run (law_EnvChains.e0 q) (law_EnvChains.K0 F0) = (law_EnvChains.L0 N  m q).map law_EnvChains.val
  | 0, q => rfl
  | m + 1, q => by
    have ih := law_EnvChains.L0.ok N F0   m
    refine (sumN_run (n := m) rfl).trans ((law_EnvChains.l0.r F0 (sumN P G (tab L_law_EnvMembers) (law_EnvChains.H0 ) 60 law_EnvChains.B0 m) (q).1 (q).2.1 (q).2.2.1 (q).2.2.2.1 (q).2.2.2.2.1 (q).2.2.2.2.2.1 (q).2.2.2.2.2.2.1 (q).2.2.2.2.2.2.2).trans ?_)
    refine Eq.trans ?_ (law_EnvChains.l0.p law_EnvChains.val (law_EnvChains.L0 N m) some (q).1 (q).2.1 (q).2.2.1 (q).2.2.2.1 (q).2.2.2.2.1 (q).2.2.2.2.2.1 (q).2.2.2.2.2.2.1 (q).2.2.2.2.2.2.2)
    have e0 : (fun q => (sumN P G (tab L_law_EnvMembers) (law_EnvChains.H0 ) 60 law_EnvChains.B0 m).run (law_EnvChains.e0 q) (law_EnvChains.K0 F0)) = (fun q => ((law_EnvChains.L0 N m) q).map law_EnvChains.val) := funext ih
    rw [e0]; rfl

theorem law_EnvChains.q (N : Nat) (ea : (cE).T) (l : List (cE).T) (z : List (cI64).T) : runX P G (tab L_law_EnvMembers) (law_EnvChains.H (law_EnvChains.S0 N)) 60 Tryd.f4 [.agg (cellsD (cE) ea), .dl (cE) l, .dl (cI64) z] = (law_EnvChains.o N ea l z).map law_EnvChains.val := by
  have hk0 := law_EnvChains.L0.ok N (law_EnvChains.S0 N)   N
  refine (law_EnvChains.r (law_EnvChains.S0 N) ea l z).trans ?_
  refine Eq.trans ?_ (law_EnvChains.p law_EnvChains.val (law_EnvChains.L0 N  N) some ea l z)
  have e0 : (fun q => (law_EnvChains.S0 N).run (law_EnvChains.e0 q) (law_EnvChains.K0 (law_EnvChains.S0 N))) = (fun q => ((law_EnvChains.L0 N  N) q).map law_EnvChains.val) := funext hk0
  rw [e0]; rfl

theorem law_EnvChains.lok (N : Nat) : LoopsOK P G (law_EnvChains.H (law_EnvChains.S0 N)).sums (fbody Tryd.f4) := by
  refine LoopsOK_code fun i hi F hF => ?_
  have hlen : (loopsOf (fbody Tryd.f4)).length = 1 := by kernel_rfl
  rw [hlen] at hi
  match i, hi with
  | 0, _ => exact soundAt (B' := law_EnvChains.B0) (by kernel_rfl) (by kernel_rfl) (law_EnvChains.S0.snd N) hF
  | _ + 1, h => omega

def law_EnvChains (ea : (cE).T) (l : List (cE).T) (z : List (cI64).T) : Bool := hide ((law_EnvChains.o (l.length + 1) ea l z).getD (false))
def law_EnvChains.g (ea : (cE).T) (l : List (cE).T) (z : List (cI64).T) : Bool := hide (law_EnvChains.o (l.length + 1) ea l z).isSome
theorem law_EnvChains.s (ea : (cE).T) (l : List (cE).T) (z : List (cI64).T) (h : law_EnvChains.g ea l z = true) : law_EnvChains.o (l.length + 1) ea l z = some (law_EnvChains ea l z) := by
  unfold law_EnvChains.g at h; unfold law_EnvChains; simp only [hide_eq] at h ⊢; revert h; cases law_EnvChains.o (l.length + 1) ea l z <;> simp
def law_EnvChains.F : FV := mkX (dP (dA (cE)) (dP (dD (.list (cE))) (dP (dD (.list (cI64))) dU))) (fun | (ea, (l, (z, ()))) => law_EnvChains.g ea l z) (fun | (ea, (l, (z, ()))) => law_EnvChains.val (law_EnvChains ea l z))
def L_law_EnvChains : TL := (4, law_EnvChains.F) :: L_law_EnvMembers
theorem law_EnvChains.t : TabOK P G (tab L_law_EnvChains) :=
  TabOK_mkXH C law_EnvMembers.t Tryd.func4 (by kernel_rfl) (fun | (_, (l, (_, ()))) => law_EnvChains.H (law_EnvChains.S0 (l.length + 1))) (by rintro ⟨ea, ⟨l, ⟨z, ⟨⟩⟩⟩⟩ c; exact LoopsOK_body (law_EnvChains.lok _) c) 60 (by
    rintro ⟨ea, ⟨l, ⟨z, ⟨⟩⟩⟩⟩ h
    exact (law_EnvChains.q (l.length + 1) ea l z).trans (congrArg (Option.map law_EnvChains.val) (law_EnvChains.s ea l z h)))

end
end Go.Proofs.YtmadebejnhinoaaDoor.V
