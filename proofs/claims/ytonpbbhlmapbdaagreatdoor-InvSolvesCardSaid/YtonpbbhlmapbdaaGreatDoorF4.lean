/- What the functions of this seat compute, told by evaluation of their code. Conditions: none. -/
import Derived.Test.YtonpbbhlmapbdaaGreatDoorF3
set_option linter.unusedVariables false
set_option linter.unusedSimpArgs false
namespace Go.Proofs.YtonpbbhlmapbdaaGreatDoor.V
open Go Go.Wk
noncomputable section
def law_taken.c0 {γ : Type} (n : γ) (k : Bool → γ)  (t1 t2 : Bool) (t3 t4 t5 : Bool × Int × Int × Int × Int) (t6 t7 t8 : Bool) (t9 t10 : Bool × Int × Int × Int × Int) (t11 : Bool) (t12 t13 : Bool × Int × Int × Int × Int × Bool × Int × Int × Int × Int × Int) (t14 : Bool) (t15 : Int × Int) (t16 t17 t18 : Bool) (t19 : Bool × Int × Int × Int × Int) (t20 t21 t22 : Bool) (t23 : Bool × Int × Int × Int × Int) (t24 : Bool) (t25 : Bool × Int × Int × Int × Int) (t26 : Bool) : γ := bif t1
then bif t2
then bif t6
then bif t7
then bif t8
then bif t11
then bif t17
then k (false)
else bif (t18 || !true) && ((t2 || !(t12.1 == t19.1 && (t12.2.1 == t19.2.1 && (t12.2.2.1 == t19.2.2.1 && true) && (t12.2.2.2.1 == t19.2.2.2.1 && (t12.2.2.2.2.1 == t19.2.2.2.2 && true) && true)) && true)) && ((t20 || !(t21 && true)) && ((t22 || !(t24 && true)) && true)))
then k (t26)
else n
else n
else n
else n
else n
else n
else n
def law_taken.c {γ : Type} (n : γ) (k : Bool → γ)  : γ := let t1 := nref_Range.ok 0 10; let t2 := nref_Range.ok 1 2; let t3 := nref_Range 0 10; let t4 := nref_Range 1 2; let t5 := nref_Const 5; let t6 := inv_Solve.ok 3 t3.1 t3.2.1 t3.2.2.1 t3.2.2.2.1 t3.2.2.2.2 t4.1 t4.2.1 t4.2.2.1 t4.2.2.2.1 t4.2.2.2.2 t5.1 t5.2.1 t5.2.2.1 t5.2.2.2.1 t5.2.2.2.2; let t7 := nref_Range.ok 0 9; let t8 := nref_Range.ok 0 5; let t9 := nref_Range 0 9; let t10 := nref_Range 0 5; let t11 := inv_Compare.ok 8 t9.1 t9.2.1 t9.2.2.1 t9.2.2.2.1 t9.2.2.2.2 t10.1 t10.2.1 t10.2.2.1 t10.2.2.2.1 t10.2.2.2.2; let t12 := inv_Solve 3 t3.1 t3.2.1 t3.2.2.1 t3.2.2.2.1 t3.2.2.2.2 t4.1 t4.2.1 t4.2.2.1 t4.2.2.2.1 t4.2.2.2.2 t5.1 t5.2.1 t5.2.2.1 t5.2.2.2.1 t5.2.2.2.2; let t13 := inv_Compare 8 t9.1 t9.2.1 t9.2.2.1 t9.2.2.2.1 t9.2.2.2.2 t10.1 t10.2.1 t10.2.2.1 t10.2.2.2.1 t10.2.2.2.2; let t14 := bif t12.2.2.2.2.2.2.2.2.2.2 != 0 then true else t13.2.2.2.2.2.2.2.2.2.2 != 0; let t15 := inv_Negate 8; let t16 := bif t14 then true else t15.2 != 0; let t17 := bif t16 then true else t15.1 != 11; let t18 := nref_Range.ok 3 4; let t19 := nref_Range 3 4; let t20 := nref_Range.ok 0 4; let t21 := bif t12.1 == t19.1 && (t12.2.1 == t19.2.1 && (t12.2.2.1 == t19.2.2.1 && true) && (t12.2.2.2.1 == t19.2.2.2.1 && (t12.2.2.2.2.1 == t19.2.2.2.2 && true) && true)) then t12.2.2.2.2.2.1 == t4.1 && (t12.2.2.2.2.2.2.1 == t4.2.1 && (t12.2.2.2.2.2.2.2.1 == t4.2.2.1 && true) && (t12.2.2.2.2.2.2.2.2.1 == t4.2.2.2.1 && (t12.2.2.2.2.2.2.2.2.2.1 == t4.2.2.2.2 && true) && true)) else false; let t22 := nref_Range.ok 1 5; let t23 := nref_Range 0 4; let t24 := bif t21 then t13.1 == t23.1 && (t13.2.1 == t23.2.1 && (t13.2.2.1 == t23.2.2.1 && true) && (t13.2.2.2.1 == t23.2.2.2.1 && (t13.2.2.2.2.1 == t23.2.2.2.2 && true) && true)) else false; let t25 := nref_Range 1 5; let t26 := bif t24 then t13.2.2.2.2.2.1 == t25.1 && (t13.2.2.2.2.2.2.1 == t25.2.1 && (t13.2.2.2.2.2.2.2.1 == t25.2.2.1 && true) && (t13.2.2.2.2.2.2.2.2.1 == t25.2.2.2.1 && (t13.2.2.2.2.2.2.2.2.2.1 == t25.2.2.2.2 && true) && true)) else false; law_taken.c0 n k  t1 t2 t3 t4 t5 t6 t7 t8 t9 t10 t11 t12 t13 t14 t15 t16 t17 t18 t19 t20 t21 t22 t23 t24 t25 t26
def law_taken.ok  : Bool := law_taken.c false (fun _ => true)
def law_taken  : Bool := law_taken.c (false) id
def law_taken.F : FV := mkF cU (fun | () => law_taken.ok ) (fun | () => .bool (law_taken))
def L_law_taken : TL := (46, law_taken.F) :: L_inv_Negate
theorem law_taken.p0 {γ : Type} (k : Bool → γ) (t1 t2 t3 t4 t5 t6 t7 t8 t9 t10 t11 t12 t13 t14 t15 t16 t17 t18 t19 t20 t21 t22 t23 t24 t25 t26) : law_taken.c0 false (fun _ => true)  t1 t2 t3 t4 t5 t6 t7 t8 t9 t10 t11 t12 t13 t14 t15 t16 t17 t18 t19 t20 t21 t22 t23 t24 t25 t26 = true → law_taken.c0 none (fun q => some (k q))  t1 t2 t3 t4 t5 t6 t7 t8 t9 t10 t11 t12 t13 t14 t15 t16 t17 t18 t19 t20 t21 t22 t23 t24 t25 t26 = some (k (law_taken.c0 (false) id  t1 t2 t3 t4 t5 t6 t7 t8 t9 t10 t11 t12 t13 t14 t15 t16 t17 t18 t19 t20 t21 t22 t23 t24 t25 t26)) := by
  unfold law_taken.c0; (repeat' (first | (apply pn k) | (exact pn_none _ _) | (exact pn_leaf k _)))
theorem law_taken.p {γ : Type} (k : Bool → γ) (h : law_taken.ok = true) : law_taken.c none (fun q => some (k q)) = some (k (law_taken)) := by
  revert h; unfold law_taken.ok law_taken law_taken.c; apply law_taken.p0
theorem law_taken.r  : runF P G (tab L_inv_Negate) { merge := true, glue := true } 60 Tryz.f46 [] = law_taken.c none (fun q => some (.bool (q) : Value))  := by kernel_rfl
theorem law_taken.t : TabOK P G (tab L_law_taken) :=
  TabOK_mkL C inv_Negate.t Tryz.func46 (by kernel_rfl) { merge := true, glue := true } (fun c _ => LoopsOK_nil c) 60 (by
    rintro ⟨⟩ h
    exact (law_taken.r ).trans (law_taken.p (fun q => (.bool (q) : Value))  h))
def law_InvSolves.c0 {γ : Type} (n : γ) (k : Bool → γ) (a : Int) (b0 : Bool) (b1 b2 b3 b4 : Int) (c0 : Bool) (c1 c2 c3 c4 : Int) (d0 : Bool) (d1 d2 d3 d4 : Int) (t1 t2 : Bool) (t3 t4 : Bool × Int × Int × Int × Int × Bool × Int × Int × Int × Int × Int) (t5 t6 t7 : Bool) : γ := bif t1
then bif t2
then bif (law_taken.ok || !(t6 && true)) && true
then k (t7)
else n
else n
else n
def law_InvSolves.c {γ : Type} (n : γ) (k : Bool → γ) (a : Int) (b0 : Bool) (b1 b2 b3 b4 : Int) (c0 : Bool) (c1 c2 c3 c4 : Int) (d0 : Bool) (d1 d2 d3 d4 : Int) : γ := let t1 := inv_Solve.ok a b0 b1 b2 b3 b4 c0 c1 c2 c3 c4 d0 d1 d2 d3 d4; let t2 := r14_Solve.ok a b0 b1 b2 b3 b4 c0 c1 c2 c3 c4 d0 d1 d2 d3 d4; let t3 := inv_Solve a b0 b1 b2 b3 b4 c0 c1 c2 c3 c4 d0 d1 d2 d3 d4; let t4 := r14_Solve a b0 b1 b2 b3 b4 c0 c1 c2 c3 c4 d0 d1 d2 d3 d4; let t5 := bif t3.1 == t4.1 && (t3.2.1 == t4.2.1 && (t3.2.2.1 == t4.2.2.1 && true) && (t3.2.2.2.1 == t4.2.2.2.1 && (t3.2.2.2.2.1 == t4.2.2.2.2.1 && true) && true)) then t3.2.2.2.2.2.1 == t4.2.2.2.2.2.1 && (t3.2.2.2.2.2.2.1 == t4.2.2.2.2.2.2.1 && (t3.2.2.2.2.2.2.2.1 == t4.2.2.2.2.2.2.2.1 && true) && (t3.2.2.2.2.2.2.2.2.1 == t4.2.2.2.2.2.2.2.2.1 && (t3.2.2.2.2.2.2.2.2.2.1 == t4.2.2.2.2.2.2.2.2.2.1 && true) && true)) else false; let t6 := bif t5 then t3.2.2.2.2.2.2.2.2.2.2 == t4.2.2.2.2.2.2.2.2.2.2 else false; let t7 := bif t6 then law_taken else false; law_InvSolves.c0 n k a b0 b1 b2 b3 b4 c0 c1 c2 c3 c4 d0 d1 d2 d3 d4 t1 t2 t3 t4 t5 t6 t7
theorem law_InvSolves.r (a : Int) (b0 : Bool) (b1 b2 b3 b4 : Int) (c0 : Bool) (c1 c2 c3 c4 : Int) (d0 : Bool) (d1 d2 d3 d4 : Int) : runF P G (tab L_law_taken) { merge := true, glue := true } 60 Tryz.f8 [.int .i64 a, wN b0 b1 b2 b3 b4, wN c0 c1 c2 c3 c4, wN d0 d1 d2 d3 d4] = law_InvSolves.c none (fun q => some (.bool (q) : Value)) a b0 b1 b2 b3 b4 c0 c1 c2 c3 c4 d0 d1 d2 d3 d4 := by kernel_rfl
end
end Go.Proofs.YtonpbbhlmapbdaaGreatDoor.V
