/- Chapter 15: what the laws compute, told by evaluation of their code. Conditions: none. -/
import Derived.Test.YtmadebejnhinoaaDoorD3
set_option linter.unusedVariables false
set_option linter.unusedSimpArgs false
set_option maxRecDepth 100000
set_option maxHeartbeats 4000000
namespace Go.Proofs.YtmadebejnhinoaaDoor.V
open Go Go.Wk Go.RowKit
noncomputable section

def law_EnvMembers.val (q : Bool) : SV := .val (.bool (q))
def law_EnvMembers.h : List (Nat × List Nat × Nat) := [(4, [3, 4, 5, 6, 9], 3)]
def law_EnvMembers.e0 (q : List (cI64).T × Int × Bool × List (cN).T × List (cN).T × Bool × List (cN).T × List (cN).T × List (cI64).T × List (cI64.list).T) : St := { tmps := [.unk, .unk, .unk, .dl (cI64) (q).1, .ptr 0 0, .ptr 1 0, .ptr 2 0, .unk, .unk, .val (.int .i64 (q).2.1), .unk, .unk, .unk, .unk, .unk, .unk, .unk, .unk, .unk, .unk, .unk, .unk, .unk, .unk, .unk, .unk, .unk, .unk, .unk, .unk, .unk, .unk, .unk, .unk, .unk, .unk, .unk, .unk, .unk, .unk, .unk, .unk, .unk, .unk, .unk, .unk, .unk, .unk, .unk, .unk, .unk, .unk, .unk, .unk, .unk, .unk, .unk, .unk, .unk, .unk, .unk, .unk, .unk, .unk, .unk, .unk, .unk, .unk, .unk, .unk, .unk, .unk, .unk, .unk, .unk, .unk, .unk, .unk, .unk, .unk, .unk, .unk, .unk, .unk, .unk, .unk, .unk, .unk, .unk, .unk, .unk, .unk, .unk, .unk, .unk, .unk, .unk, .unk, .unk, .unk, .unk, .unk, .unk, .unk, .unk], blks := [some ⟨[.val (.bool (q).2.2.1), .dl (cN) (q).2.2.2.1, .dl (cN) (q).2.2.2.2.1], 24⟩, some ⟨[.val (.bool (q).2.2.2.2.2.1), .dl (cN) (q).2.2.2.2.2.2.1, .dl (cN) (q).2.2.2.2.2.2.2.1], 24⟩, some ⟨[.dl (cI64) (q).2.2.2.2.2.2.2.2.1, .dl (cI64.list) (q).2.2.2.2.2.2.2.2.2], 36⟩], saved := [] }
noncomputable def law_EnvMembers.B0 : Code := loopAt [1, 1, 0, 1, 0] (fbody Tryd.f5)
noncomputable def law_EnvMembers.H (F0 : LSum) : Heads := { heads := law_EnvMembers.h, merge := true, glue := true, sums := [(4, F0)] }
noncomputable def law_EnvMembers.H0  : Heads := { heads := law_EnvMembers.h, merge := true, glue := true, sums := [] }
noncomputable def law_EnvMembers.K0 (F0 : LSum) : Xt → St → Option SV := kAt P G (tab L_law_EnvOrders) (law_EnvMembers.H F0) [1, 1, 0, 1, 0] 60 (fbody Tryd.f5) (retX P G Tryd.f5)
def law_EnvMembers.l0.c0 {γ : Type} (k0 : List (cI64).T × Int × Bool × List (cN).T × List (cN).T × Bool × List (cN).T × List (cN).T × List (cI64).T × List (cI64.list).T → Option γ) (k : Bool → Option γ) (s3 : List (cI64).T) (s9 : Int) (b0_0 : Bool) (b0_1 : List (cN).T) (b0_2 : List (cN).T) (b1_0 : Bool) (b1_1 : List (cN).T) (b1_2 : List (cN).T) (b2_0 : List (cI64).T) (b2_1 : List (cI64.list).T) (t1 : Int) (t2 : Bool) (t3 : Bool) (t4 : Bool) (t5 : EnvP) (t6 : EnvP) (t7 : Bool) (t8 : List Nm) (t9 : List Nm) (t10 : Bool) (t11 : EnvP) (t12 : Bool) (t13 : Bool) (t14 : EnvP) (t15 : Bool) (t16 : Bool) (t17 : Bool) (t18 : Bool) (t19 : Bool) (t20 : EnvP) (t21 : Bool) (t22 : List Nm) (t23 : List Nm) (t24 : Bool) (t25 : Bool) (t26 : EnvP) (t27 : Bool) (t28 : Bool) (t29 : EnvP) (t30 : Bool) (t31 : Bool) (t32 : EnvP) (t33 : Bool) (t34 : Bool) (t35 : EnvP) (t36 : Bool) (t37 : Bool) (t38 : List Nm) (t39 : List Nm) (t40 : Bool) (t41 : EnvP) (t42 : Bool) (t43 : Bool) (t44 : Bool) (t45 : List Nm) (t46 : List Nm) (t47 : Bool) (t48 : EnvP) (t49 : Bool) (t50 : List Nm) (t51 : List Nm) (t52 : Bool) (t53 : EnvP) (t54 : Bool) (t55 : Bool) (t56 : Bool) : Option γ := bif decide (s9 < ((b2_1.length : Nat) : Int))
  then bif decide (0 ≤ s9) && decide (s9 < ((b2_1.length : Nat) : Int))
   then bif ((List.length (b2_1.getD s9.toNat cI64.list.dflt) : Nat) : Int) == 0
    then k (true)
    else k0 (s3, t1, b0_0, b0_1, b0_2, b1_0, b1_1, b1_2, b2_0, b2_1)
   else none
  else bif t2 && t3
   then bif t4 && t3
    then bif (t2 || !true) && ((t10 && t3 || !true) && ((t2 && t4 || !(!!t12 == t13 && true)) && true))
     then bif t19
      then k (false)
      else bif t2
       then bif t4
        then bif t10 && t24
         then bif !(t25 || (t27 || !t28))
          then bif (t2 && t4 || !true) && ((t2 && t4 || !(t30 && true)) && ((t2 && t4 && t31 || !(t34 && true)) && true))
           then k (t37)
           else none
          else bif (t2 && t4 || !true) && ((t40 && t3 || !true) && true)
           then bif !t42 == t43
            then k (false)
            else bif (t2 && t4 || !(!!t44 && true)) && ((t47 && t3 || !(!!t44 && true)) && ((t2 && t4 && t31 || !(t49 && (!!t44 && true))) && ((t52 && t3 || !(t49 && (!!t44 && true))) && true)))
             then k (t56)
             else none
           else none
         else none
        else none
       else none
     else none
    else none
   else none
def law_EnvMembers.l0.c {γ : Type} (k0 : List (cI64).T × Int × Bool × List (cN).T × List (cN).T × Bool × List (cN).T × List (cN).T × List (cI64).T × List (cI64.list).T → Option γ) (k : Bool → Option γ) (s3 : List (cI64).T) (s9 : Int) (b0_0 : Bool) (b0_1 : List (cN).T) (b0_2 : List (cN).T) (b1_0 : Bool) (b1_1 : List (cN).T) (b1_2 : List (cN).T) (b2_0 : List (cI64).T) (b2_1 : List (cI64.list).T) : Option γ := let t1 := IntKind.i64.wrap (s9 + 1); let t2 := envOK (b0_0, b0_1, b0_2); let t3 := stOK (b2_0, b2_1); let t4 := envOK (b1_0, b1_1, b1_2); let t5 := toE (b0_0, b0_1, b0_2); let t6 := normE t5; let t7 := t6.dead; let t8 := t6.vs; let t9 := t6.ars; let t10 := envOK (t7, t8, t9); let t11 := toE (t7, t8, t9); let t12 := hasE t11 (b2_0, b2_1).fst (b2_0, b2_1).snd; let t13 := hasE t5 (b2_0, b2_1).fst (b2_0, b2_1).snd; let t14 := toE (b1_0, b1_1, b1_2); let t15 := leqE t5 t14; let t16 := bif t15 then t13 else false; let t17 := hasE t14 (b2_0, b2_1).fst (b2_0, b2_1).snd; let t18 := bif t16 then !t17 else false; let t19 := bif !t12 == t13 then true else t18; let t20 := normE t14; let t21 := t20.dead; let t22 := t20.vs; let t23 := t20.ars; let t24 := envOK (t21, t22, t23); let t25 := t11.dead; let t26 := toE (t21, t22, t23); let t27 := t26.dead; let t28 := unlikeE t11 t26; let t29 := meetE t5 t14; let t30 := t29.dead; let t31 := thrOK s3; let t32 := joinE t5 t14; let t33 := t32.dead; let t34 := bif t30 then t33 else false; let t35 := widE s3 t5 t14; let t36 := t35.dead; let t37 := bif t34 then t36 else false; let t38 := t29.vs; let t39 := t29.ars; let t40 := envOK (t30, t38, t39); let t41 := toE (t30, t38, t39); let t42 := hasE t41 (b2_0, b2_1).fst (b2_0, b2_1).snd; let t43 := bif t13 then t17 else false; let t44 := bif t13 then true else t17; let t45 := t32.vs; let t46 := t32.ars; let t47 := envOK (t33, t45, t46); let t48 := toE (t33, t45, t46); let t49 := hasE t48 (b2_0, b2_1).fst (b2_0, b2_1).snd; let t50 := t35.vs; let t51 := t35.ars; let t52 := envOK (t36, t50, t51); let t53 := toE (t36, t50, t51); let t54 := hasE t53 (b2_0, b2_1).fst (b2_0, b2_1).snd; let t55 := bif t49 then t54 else false; let t56 := bif !t44 then true else t55; law_EnvMembers.l0.c0 k0 k s3 s9 b0_0 b0_1 b0_2 b1_0 b1_1 b1_2 b2_0 b2_1 t1 t2 t3 t4 t5 t6 t7 t8 t9 t10 t11 t12 t13 t14 t15 t16 t17 t18 t19 t20 t21 t22 t23 t24 t25 t26 t27 t28 t29 t30 t31 t32 t33 t34 t35 t36 t37 t38 t39 t40 t41 t42 t43 t44 t45 t46 t47 t48 t49 t50 t51 t52 t53 t54 t55 t56
def law_EnvMembers.c {γ : Type} (k0 : List (cI64).T × Int × Bool × List (cN).T × List (cN).T × Bool × List (cN).T × List (cN).T × List (cI64).T × List (cI64.list).T → Option γ) (k : Bool → Option γ) (ea : (cE).T) (eb : (cE).T) (s : (cSt).T) (z : List (cI64).T) : Option γ := k0 (z, 0, ea.fst, ea.snd.fst, ea.snd.snd, eb.fst, eb.snd.fst, eb.snd.snd, s.fst, s.snd)
def law_EnvMembers.L0 (N : Nat)  : Nat → List (cI64).T × Int × Bool × List (cN).T × List (cN).T × Bool × List (cN).T × List (cN).T × List (cI64).T × List (cI64.list).T → Option (Bool)
  | 0, _ => none
  | m + 1, q => law_EnvMembers.l0.c (law_EnvMembers.L0 N m) some (q).1 (q).2.1 (q).2.2.1 (q).2.2.2.1 (q).2.2.2.2.1 (q).2.2.2.2.2.1 (q).2.2.2.2.2.2.1 (q).2.2.2.2.2.2.2.1 (q).2.2.2.2.2.2.2.2.1 (q).2.2.2.2.2.2.2.2.2
def law_EnvMembers.o (N : Nat) (ea : (cE).T) (eb : (cE).T) (s : (cSt).T) (z : List (cI64).T) : Option (Bool) := law_EnvMembers.c (law_EnvMembers.L0 N  N) some ea eb s z
noncomputable def law_EnvMembers.S0 (N : Nat) : LSum := sumN P G (tab L_law_EnvOrders) (law_EnvMembers.H0 ) 60 law_EnvMembers.B0 N
theorem law_EnvMembers.l0.p0 {γ δ : Type} (f : γ → δ) (k0 : List (cI64).T × Int × Bool × List (cN).T × List (cN).T × Bool × List (cN).T × List (cN).T × List (cI64).T × List (cI64.list).T → Option γ) (k : Bool → Option γ) (s3 : List (cI64).T) (s9 : Int) (b0_0 : Bool) (b0_1 : List (cN).T) (b0_2 : List (cN).T) (b1_0 : Bool) (b1_1 : List (cN).T) (b1_2 : List (cN).T) (b2_0 : List (cI64).T) (b2_1 : List (cI64.list).T) (t1 : Int) (t2 : Bool) (t3 : Bool) (t4 : Bool) (t5 : EnvP) (t6 : EnvP) (t7 : Bool) (t8 : List Nm) (t9 : List Nm) (t10 : Bool) (t11 : EnvP) (t12 : Bool) (t13 : Bool) (t14 : EnvP) (t15 : Bool) (t16 : Bool) (t17 : Bool) (t18 : Bool) (t19 : Bool) (t20 : EnvP) (t21 : Bool) (t22 : List Nm) (t23 : List Nm) (t24 : Bool) (t25 : Bool) (t26 : EnvP) (t27 : Bool) (t28 : Bool) (t29 : EnvP) (t30 : Bool) (t31 : Bool) (t32 : EnvP) (t33 : Bool) (t34 : Bool) (t35 : EnvP) (t36 : Bool) (t37 : Bool) (t38 : List Nm) (t39 : List Nm) (t40 : Bool) (t41 : EnvP) (t42 : Bool) (t43 : Bool) (t44 : Bool) (t45 : List Nm) (t46 : List Nm) (t47 : Bool) (t48 : EnvP) (t49 : Bool) (t50 : List Nm) (t51 : List Nm) (t52 : Bool) (t53 : EnvP) (t54 : Bool) (t55 : Bool) (t56 : Bool) : law_EnvMembers.l0.c0 (fun q => (k0 q).map f) (fun q => (k q).map f) s3 s9 b0_0 b0_1 b0_2 b1_0 b1_1 b1_2 b2_0 b2_1 t1 t2 t3 t4 t5 t6 t7 t8 t9 t10 t11 t12 t13 t14 t15 t16 t17 t18 t19 t20 t21 t22 t23 t24 t25 t26 t27 t28 t29 t30 t31 t32 t33 t34 t35 t36 t37 t38 t39 t40 t41 t42 t43 t44 t45 t46 t47 t48 t49 t50 t51 t52 t53 t54 t55 t56 = (law_EnvMembers.l0.c0 k0 k s3 s9 b0_0 b0_1 b0_2 b1_0 b1_1 b1_2 b2_0 b2_1 t1 t2 t3 t4 t5 t6 t7 t8 t9 t10 t11 t12 t13 t14 t15 t16 t17 t18 t19 t20 t21 t22 t23 t24 t25 t26 t27 t28 t29 t30 t31 t32 t33 t34 t35 t36 t37 t38 t39 t40 t41 t42 t43 t44 t45 t46 t47 t48 t49 t50 t51 t52 t53 t54 t55 t56).map f := by
  unfold law_EnvMembers.l0.c0; (repeat' (first | (apply pm f) | (exact rfl)))
theorem law_EnvMembers.l0.p {γ δ : Type} (f : γ → δ) (k0 : List (cI64).T × Int × Bool × List (cN).T × List (cN).T × Bool × List (cN).T × List (cN).T × List (cI64).T × List (cI64.list).T → Option γ) (k : Bool → Option γ) (s3 : List (cI64).T) (s9 : Int) (b0_0 : Bool) (b0_1 : List (cN).T) (b0_2 : List (cN).T) (b1_0 : Bool) (b1_1 : List (cN).T) (b1_2 : List (cN).T) (b2_0 : List (cI64).T) (b2_1 : List (cI64.list).T) : law_EnvMembers.l0.c (fun q => (k0 q).map f) (fun q => (k q).map f) s3 s9 b0_0 b0_1 b0_2 b1_0 b1_1 b1_2 b2_0 b2_1 = (law_EnvMembers.l0.c k0 k s3 s9 b0_0 b0_1 b0_2 b1_0 b1_1 b1_2 b2_0 b2_1).map f :=
  let t1 := IntKind.i64.wrap (s9 + 1); let t2 := envOK (b0_0, b0_1, b0_2); let t3 := stOK (b2_0, b2_1); let t4 := envOK (b1_0, b1_1, b1_2); let t5 := toE (b0_0, b0_1, b0_2); let t6 := normE t5; let t7 := t6.dead; let t8 := t6.vs; let t9 := t6.ars; let t10 := envOK (t7, t8, t9); let t11 := toE (t7, t8, t9); let t12 := hasE t11 (b2_0, b2_1).fst (b2_0, b2_1).snd; let t13 := hasE t5 (b2_0, b2_1).fst (b2_0, b2_1).snd; let t14 := toE (b1_0, b1_1, b1_2); let t15 := leqE t5 t14; let t16 := bif t15 then t13 else false; let t17 := hasE t14 (b2_0, b2_1).fst (b2_0, b2_1).snd; let t18 := bif t16 then !t17 else false; let t19 := bif !t12 == t13 then true else t18; let t20 := normE t14; let t21 := t20.dead; let t22 := t20.vs; let t23 := t20.ars; let t24 := envOK (t21, t22, t23); let t25 := t11.dead; let t26 := toE (t21, t22, t23); let t27 := t26.dead; let t28 := unlikeE t11 t26; let t29 := meetE t5 t14; let t30 := t29.dead; let t31 := thrOK s3; let t32 := joinE t5 t14; let t33 := t32.dead; let t34 := bif t30 then t33 else false; let t35 := widE s3 t5 t14; let t36 := t35.dead; let t37 := bif t34 then t36 else false; let t38 := t29.vs; let t39 := t29.ars; let t40 := envOK (t30, t38, t39); let t41 := toE (t30, t38, t39); let t42 := hasE t41 (b2_0, b2_1).fst (b2_0, b2_1).snd; let t43 := bif t13 then t17 else false; let t44 := bif t13 then true else t17; let t45 := t32.vs; let t46 := t32.ars; let t47 := envOK (t33, t45, t46); let t48 := toE (t33, t45, t46); let t49 := hasE t48 (b2_0, b2_1).fst (b2_0, b2_1).snd; let t50 := t35.vs; let t51 := t35.ars; let t52 := envOK (t36, t50, t51); let t53 := toE (t36, t50, t51); let t54 := hasE t53 (b2_0, b2_1).fst (b2_0, b2_1).snd; let t55 := bif t49 then t54 else false; let t56 := bif !t44 then true else t55; law_EnvMembers.l0.p0 f k0 k s3 s9 b0_0 b0_1 b0_2 b1_0 b1_1 b1_2 b2_0 b2_1 t1 t2 t3 t4 t5 t6 t7 t8 t9 t10 t11 t12 t13 t14 t15 t16 t17 t18 t19 t20 t21 t22 t23 t24 t25 t26 t27 t28 t29 t30 t31 t32 t33 t34 t35 t36 t37 t38 t39 t40 t41 t42 t43 t44 t45 t46 t47 t48 t49 t50 t51 t52 t53 t54 t55 t56
theorem law_EnvMembers.p {γ δ : Type} (f : γ → δ) (k0 : List (cI64).T × Int × Bool × List (cN).T × List (cN).T × Bool × List (cN).T × List (cN).T × List (cI64).T × List (cI64.list).T → Option γ) (k : Bool → Option γ) (ea : (cE).T) (eb : (cE).T) (s : (cSt).T) (z : List (cI64).T) : law_EnvMembers.c (fun q => (k0 q).map f) (fun q => (k q).map f) ea eb s z = (law_EnvMembers.c k0 k ea eb s z).map f := by
  unfold law_EnvMembers.c; (repeat' (first | (apply pm f) | (exact rfl)))
theorem law_EnvMembers.S0.ok (N : Nat) : LoopsOK P G (law_EnvMembers.H0 ).sums law_EnvMembers.B0 := by
  refine LoopsOK_code fun i hi F hF => ?_
  have hlen : (loopsOf law_EnvMembers.B0).length = 0 := by kernel_rfl
  rw [hlen] at hi
  omega

theorem law_EnvMembers.S0.snd (N : Nat) : SoundL P G law_EnvMembers.B0 (law_EnvMembers.S0 N) := sumN_sound C.mixed C.names law_EnvOrders.t (law_EnvMembers.S0.ok N) N
theorem law_EnvMembers.l0.r (F0 G0 : LSum) (s3 : List (cI64).T) (s9 : Int) (b0_0 : Bool) (b0_1 : List (cN).T) (b0_2 : List (cN).T) (b1_0 : Bool) (b1_1 : List (cN).T) (b1_2 : List (cN).T) (b2_0 : List (cI64).T) (b2_1 : List (cI64.list).T) : ex P G (tab L_law_EnvOrders) (law_EnvMembers.H0 ) 60 law_EnvMembers.B0 (law_EnvMembers.e0 (s3, s9, b0_0, b0_1, b0_2, b1_0, b1_1, b1_2, b2_0, b2_1)) (roundK (law_EnvMembers.H0 ) law_EnvMembers.B0 G0 (law_EnvMembers.K0 F0)) = law_EnvMembers.l0.c (fun q => G0.run (law_EnvMembers.e0 q) (law_EnvMembers.K0 F0)) (fun q => some (law_EnvMembers.val q)) s3 s9 b0_0 b0_1 b0_2 b1_0 b1_1 b1_2 b2_0 b2_1 := by kernel_rfl
theorem law_EnvMembers.r (F0 : LSum) (ea : (cE).T) (eb : (cE).T) (s : (cSt).T) (z : List (cI64).T) : runX P G (tab L_law_EnvOrders) (law_EnvMembers.H F0) 60 Tryd.f5 [.agg (cellsD (cE) ea), .agg (cellsD (cE) eb), .agg (cellsD (cSt) s), .dl (cI64) z] = law_EnvMembers.c (fun q => F0.run (law_EnvMembers.e0 q) (law_EnvMembers.K0 F0)) (fun q => some (law_EnvMembers.val q)) ea eb s z := by kernel_rfl
theorem law_EnvMembers.L0.ok (N : Nat) (F0 : LSum)   : ∀ m q, (sumN P G (tab L_law_EnvOrders) (law_EnvMembers.H0 ) 60 law_EnvMembers.B0 m).run (law_EnvMembers.e0 q) (law_EnvMembers.K0 F0) = (law_EnvMembers.L0 N  m q).map law_EnvMembers.val
  | 0, q => rfl
  | m + 1, q => by
    have ih := law_EnvMembers.L0.ok N F0   m
    refine (sumN_run (n := m) rfl).trans ((law_EnvMembers.l0.r F0 (sumN P G (tab L_law_EnvOrders) (law_EnvMembers.H0 ) 60 law_EnvMembers.B0 m) (q).1 (q).2.1 (q).2.2.1 (q).2.2.2.1 (q).2.2.2.2.1 (q).2.2.2.2.2.1 (q).2.2.2.2.2.2.1 (q).2.2.2.2.2.2.2.1 (q).2.2.2.2.2.2.2.2.1 (q).2.2.2.2.2.2.2.2.2).trans ?_)
    refine Eq.trans ?_ (law_EnvMembers.l0.p law_EnvMembers.val (law_EnvMembers.L0 N m) some (q).1 (q).2.1 (q).2.2.1 (q).2.2.2.1 (q).2.2.2.2.1 (q).2.2.2.2.2.1 (q).2.2.2.2.2.2.1 (q).2.2.2.2.2.2.2.1 (q).2.2.2.2.2.2.2.2.1 (q).2.2.2.2.2.2.2.2.2)
    have e0 : (fun q => (sumN P G (tab L_law_EnvOrders) (law_EnvMembers.H0 ) 60 law_EnvMembers.B0 m).run (law_EnvMembers.e0 q) (law_EnvMembers.K0 F0)) = (fun q => ((law_EnvMembers.L0 N m) q).map law_EnvMembers.val) := funext ih
    rw [e0]; rfl

theorem law_EnvMembers.q (N : Nat) (ea : (cE).T) (eb : (cE).T) (s : (cSt).T) (z : List (cI64).T) : runX P G (tab L_law_EnvOrders) (law_EnvMembers.H (law_EnvMembers.S0 N)) 60 Tryd.f5 [.agg (cellsD (cE) ea), .agg (cellsD (cE) eb), .agg (cellsD (cSt) s), .dl (cI64) z] = (law_EnvMembers.o N ea eb s z).map law_EnvMembers.val := by
  have hk0 := law_EnvMembers.L0.ok N (law_EnvMembers.S0 N)   N
  refine (law_EnvMembers.r (law_EnvMembers.S0 N) ea eb s z).trans ?_
  refine Eq.trans ?_ (law_EnvMembers.p law_EnvMembers.val (law_EnvMembers.L0 N  N) some ea eb s z)
  have e0 : (fun q => (law_EnvMembers.S0 N).run (law_EnvMembers.e0 q) (law_EnvMembers.K0 (law_EnvMembers.S0 N))) = (fun q => ((law_EnvMembers.L0 N  N) q).map law_EnvMembers.val) := funext hk0
  rw [e0]; rfl

theorem law_EnvMembers.lok (N : Nat) : LoopsOK P G (law_EnvMembers.H (law_EnvMembers.S0 N)).sums (fbody Tryd.f5) := by
  refine LoopsOK_code fun i hi F hF => ?_
  have hlen : (loopsOf (fbody Tryd.f5)).length = 1 := by kernel_rfl
  rw [hlen] at hi
  match i, hi with
  | 0, _ => exact soundAt (B' := law_EnvMembers.B0) (by kernel_rfl) (by kernel_rfl) (law_EnvMembers.S0.snd N) hF
  | _ + 1, h => omega

def law_EnvMembers (ea : (cE).T) (eb : (cE).T) (s : (cSt).T) (z : List (cI64).T) : Bool := hide ((law_EnvMembers.o (s.2.length + 1) ea eb s z).getD (false))
def law_EnvMembers.g (ea : (cE).T) (eb : (cE).T) (s : (cSt).T) (z : List (cI64).T) : Bool := hide (law_EnvMembers.o (s.2.length + 1) ea eb s z).isSome
theorem law_EnvMembers.s (ea : (cE).T) (eb : (cE).T) (s : (cSt).T) (z : List (cI64).T) (h : law_EnvMembers.g ea eb s z = true) : law_EnvMembers.o (s.2.length + 1) ea eb s z = some (law_EnvMembers ea eb s z) := by
  unfold law_EnvMembers.g at h; unfold law_EnvMembers; simp only [hide_eq] at h ⊢; revert h; cases law_EnvMembers.o (s.2.length + 1) ea eb s z <;> simp
def law_EnvMembers.F : FV := mkX (dP (dA (cE)) (dP (dA (cE)) (dP (dA (cSt)) (dP (dD (.list (cI64))) dU)))) (fun | (ea, (eb, (s, (z, ())))) => law_EnvMembers.g ea eb s z) (fun | (ea, (eb, (s, (z, ())))) => law_EnvMembers.val (law_EnvMembers ea eb s z))
def L_law_EnvMembers : TL := (5, law_EnvMembers.F) :: L_law_EnvOrders
theorem law_EnvMembers.t : TabOK P G (tab L_law_EnvMembers) :=
  TabOK_mkXH C law_EnvOrders.t Tryd.func5 (by kernel_rfl) (fun | (_, (_, (s, (_, ())))) => law_EnvMembers.H (law_EnvMembers.S0 (s.2.length + 1))) (by rintro ⟨ea, ⟨eb, ⟨s, ⟨z, ⟨⟩⟩⟩⟩⟩ c; exact LoopsOK_body (law_EnvMembers.lok _) c) 60 (by
    rintro ⟨ea, ⟨eb, ⟨s, ⟨z, ⟨⟩⟩⟩⟩⟩ h
    exact (law_EnvMembers.q (s.2.length + 1) ea eb s z).trans (congrArg (Option.map law_EnvMembers.val) (law_EnvMembers.s ea eb s z h)))

end
end Go.Proofs.YtmadebejnhinoaaDoor.V
