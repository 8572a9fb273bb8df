/- What the functions of this seat compute, told by evaluation of their code. Conditions: none. -/
import Derived.Test.YtonpbbhlmapbdaaGreatDoorF3
set_option linter.unusedVariables false
set_option linter.unusedSimpArgs false
namespace Go.Proofs.YtonpbbhlmapbdaaGreatDoor.V
open Go Go.Wk
noncomputable section
def law_taken.c0 {γ : Type} (n : γ) (k : Bool → γ)  (t1 t2 : Bool) (t3 t4 t5 : Bool × Int × Int × Int × Int) (t6 t7 t8 : Bool) (t9 t10 : Bool × Int × Int × Int × Int) (t11 : Bool) (t12 t13 : Bool × Int × Int × Int × Int × Bool × Int × Int × Int × Int × Int) (t14 : Bool) (t15 : Int × Int) (t16 t17 t18 : Bool) (t19 : Bool × Int × Int × Int × Int) (t20 t21 t22 : Bool) (t23 : Bool × Int × Int × Int × Int) (t24 : Bool) (t25 : Bool × Int × Int × Int × Int) (t26 : Bool) : γ := bif t1
then bif t2
then bif t6
then bif t7
then bif t8
then bif t11
then bif t17
then k (false)
else bif (t18 || !true) && ((t2 || !(t12.1 == t19.1 && (t12.2.1 == t19.2.1 && (t12.2.2.1 == t19.2.2.1 && true) && (t12.2.2.2.1 == t19.2.2.2.1 && (t12.2.2.2.2.1 == t19.2.2.2.2 && true) && true)) && true)) && ((t20 || !(t21 && true)) && ((t22 || !(t24 && true)) && true)))
then k (t26)
else n
else n
else n
else n
else n
else n
else n
def law_taken.c {γ : Type} (n : γ) (k : Bool → γ)  : γ := let t1 := nref_Range.ok 0 10; let t2 := nref_Range.ok 1 2; let t3 := nref_Range 0 10; let t4 := nref_Range 1 2; let t5 := nref_Const 5; let t6 := inv_Solve.ok 3 t3.1 t3.2.1 t3.2.2.1 t3.2.2.2.1 t3.2.2.2.2 t4.1 t4.2.1 t4.2.2.1 t4.2.2.2.1 t4.2.2.2.2 t5.1 t5.2.1 t5.2.2.1 t5.2.2.2.1 t5.2.2.2.2; let t7 := nref_Range.ok 0 9; let t8 := nref_Range.ok 0 5; let t9 := nref_Range 0 9; let t10 := nref_Range 0 5; let t11 := inv_Compare.ok 8 t9.1 t9.2.1 t9.2.2.1 t9.2.2.2.1 t9.2.2.2.2 t10.1 t10.2.1 t10.2.2.1 t10.2.2.2.1 t10.2.2.2.2; let t12 := inv_Solve 3 t3.1 t3.2.1 t3.2.2.1 t3.2.2.2.1 t3.2.2.2.2 t4.1 t4.2.1 t4.2.2.1 t4.2.2.2.1 t4.2.2.2.2 t5.1 t5.2.1 t5.2.2.1 t5.2.2.2.1 t5.2.2.2.2; let t13 := inv_Compare 8 t9.1 t9.2.1 t9.2.2.1 t9.2.2.2.1 t9.2.2.2.2 t10.1 t10.2.1 t10.2.2.1 t10.2.2.2.1 t10.2.2.2.2; let t14 := bif t12.2.2.2.2.2.2.2.2.2.2 != 0 then true else t13.2.2.2.2.2.2.2.2.2.2 != 0; let t15 := inv_Negate 8; let t16 := bif t14 then true else t15.2 != 0; let t17 := bif t16 then true else t15.1 != 11; let t18 := nref_Range.ok 3 4; let t19 := nref_Range 3 4; let t20 := nref_Range.ok 0 4; let t21 := bif t12.1 == t19.1 && (t12.2.1 == t19.2.1 && (t12.2.2.1 == t19.2.2.1 && true) && (t12.2.2.2.1 == t19.2.2.2.1 && (t12.2.2.2.2.1 == t19.2.2.2.2 && true) && true)) then t12.2.2.2.2.2.1 == t4.1 && (t12.2.2.2.2.2.2.1 == t4.2.1 && (t12.2.2.2.2.2.2.2.1 == t4.2.2.1 && true) && (t12.2.2.2.2.2.2.2.2.1 == t4.2.2.2.1 && (t12.2.2.2.2.2.2.2.2.2.1 == t4.2.2.2.2 && true) && true)) else false; let t22 := nref_Range.ok 1 5; let t23 := nref_Range 0 4; let t24 := bif t21 then t13.1 == t23.1 && (t13.2.1 == t23.2.1 && (t13.2.2.1 == t23.2.2.1 && true) && (t13.2.2.2.1 == t23.2.2.2.1 && (t13.2.2.2.2.1 == t23.2.2.2.2 && true) && true)) else false; let t25 := nref_Range 1 5; let t26 := bif t24 then t13.2.2.2.2.2.1 == t25.1 && (t13.2.2.2.2.2.2.1 == t25.2.1 && (t13.2.2.2.2.2.2.2.1 == t25.2.2.1 && true) && (t13.2.2.2.2.2.2.2.2.1 == t25.2.2.2.1 && (t13.2.2.2.2.2.2.2.2.2.1 == t25.2.2.2.2 && true) && true)) else false; law_taken.c0 n k  t1 t2 t3 t4 t5 t6 t7 t8 t9 t10 t11 t12 t13 t14 t15 t16 t17 t18 t19 t20 t21 t22 t23 t24 t25 t26
def law_taken.ok  : Bool := law_taken.c false (fun _ => true)
def law_taken  : Bool := law_taken.c (false) id
def law_taken.F : FV := mkF cU (fun | () => law_taken.ok ) (fun | () => .bool (law_taken))
def L_law_taken : TL := (46, law_taken.F) :: L_inv_Negate
theorem law_taken.p0 {γ : Type} (k : Bool → γ) (t1 t2 t3 t4 t5 t6 t7 t8 t9 t10 t11 t12 t13 t14 t15 t16 t17 t18 t19 t20 t21 t22 t23 t24 t25 t26) : law_taken.c0 false (fun _ => true)  t1 t2 t3 t4 t5 t6 t7 t8 t9 t10 t11 t12 t13 t14 t15 t16 t17 t18 t19 t20 t21 t22 t23 t24 t25 t26 = true → law_taken.c0 none (fun q => some (k q))  t1 t2 t3 t4 t5 t6 t7 t8 t9 t10 t11 t12 t13 t14 t15 t16 t17 t18 t19 t20 t21 t22 t23 t24 t25 t26 = some (k (law_taken.c0 (false) id  t1 t2 t3 t4 t5 t6 t7 t8 t9 t10 t11 t12 t13 t14 t15 t16 t17 t18 t19 t20 t21 t22 t23 t24 t25 t26)) := by
  unfold law_taken.c0; (repeat' (first | (apply pn k) | (exact pn_none _ _) | (exact pn_leaf k _)))
theorem law_taken.p {γ : Type} (k : Bool → γ) (h : law_taken.ok = true) : law_taken.c none (fun q => some (k q)) = some (k (law_taken)) := by
  revert h; unfold law_taken.ok law_taken law_taken.c; apply law_taken.p0
theorem law_taken.r  : runF P G (tab L_inv_Negate) { merge := true, glue := true } 60 Tryz.f46 [] = law_taken.c none (fun q => some (.bool (q) : Value))  := by kernel_rfl
theorem law_taken.t : TabOK P G (tab L_law_taken) :=
  TabOK_mkL C inv_Negate.t Tryz.func46 (by kernel_rfl) { merge := true, glue := true } (fun c _ => LoopsOK_nil c) 60 (by
    rintro ⟨⟩ h
    exact (law_taken.r ).trans (law_taken.p (fun q => (.bool (q) : Value))  h))
def law_result.c0 {γ : Type} (n : γ) (k : Int × Bool → γ) (a b c : Int) (t1 : Bool) (t2 : Int) (t3 : Bool) (t4 : Int) (t5 : Bool) (t6 : Int) (t7 : Bool) (t8 : Int) (t9 : Bool) (t10 : Int × Bool) (t11 : Bool) (t12 : Int × Bool) : γ := bif a == 1
then bif t1
then k (t2, true)
else n
else bif a == 3
then bif t3
then k (t4, true)
else n
else bif a == 4
then bif t5
then k (t6, true)
else n
else bif a == 5
then bif t7
then k (t8, true)
else n
else bif a == 6
then bif t9
then k (t10.1, t10.2)
else n
else bif a == 7
then bif t11
then k (t12.1, t12.2)
else n
else k (0, false)
def law_result.c {γ : Type} (n : γ) (k : Int × Bool → γ) (a b c : Int) : γ := let t1 := w1_Neg.ok b; let t2 := w1_Neg b; let t3 := w1_Add.g b c; let t4 := w1_Add b c; let t5 := w1_Sub.ok b c; let t6 := w1_Sub b c; let t7 := w1_Mul.g b c; let t8 := w1_Mul b c; let t9 := w1_Div.ok b c; let t10 := w1_Div b c; let t11 := w1_Rem.ok b c; let t12 := w1_Rem b c; law_result.c0 n k a b c t1 t2 t3 t4 t5 t6 t7 t8 t9 t10 t11 t12
def law_result.ok (a b c : Int) : Bool := law_result.c false (fun _ => true) a b c
def law_result (a b c : Int) : Int × Bool := law_result.c (0, false) id a b c
def law_result.F : FV := mkF (cP (cI .i64) (cP (cI .i64) (cP (cI .i64) cU))) (fun | (a, b, c, ()) => law_result.ok a b c) (fun | (a, b, c, ()) => v0 (law_result a b c))
def L_law_result : TL := (51, law_result.F) :: L_law_taken
theorem law_result.p0 {γ : Type} (k : Int × Bool → γ) (a b c t1 t2 t3 t4 t5 t6 t7 t8 t9 t10 t11 t12) : law_result.c0 false (fun _ => true) a b c t1 t2 t3 t4 t5 t6 t7 t8 t9 t10 t11 t12 = true → law_result.c0 none (fun q => some (k q)) a b c t1 t2 t3 t4 t5 t6 t7 t8 t9 t10 t11 t12 = some (k (law_result.c0 (0, false) id a b c t1 t2 t3 t4 t5 t6 t7 t8 t9 t10 t11 t12)) := by
  unfold law_result.c0; (repeat' (first | (apply pn k) | (exact pn_none _ _) | (exact pn_leaf k _)))
theorem law_result.p {γ : Type} (k : Int × Bool → γ) (a b c : Int) (h : law_result.ok a b c = true) : law_result.c none (fun q => some (k q)) a b c = some (k (law_result a b c)) := by
  revert h; unfold law_result.ok law_result law_result.c; apply law_result.p0
theorem law_result.r (a b c : Int) : runF P G (tab L_law_taken) { merge := true, glue := true } 60 Tryz.f51 [.int .i64 a, .int .i64 b, .int .i64 c] = law_result.c none (fun q => some (v0 q)) a b c := by kernel_rfl
theorem law_result.t : TabOK P G (tab L_law_result) :=
  TabOK_mkL C law_taken.t Tryz.func51 (by kernel_rfl) { merge := true, glue := true } (fun c _ => LoopsOK_nil c) 60 (by
    rintro ⟨a, b, c, ⟨⟩⟩ h
    exact (law_result.r a b c).trans (law_result.p v0 a b c h))
def law_InvKeeps.c0 {γ : Type} (n : γ) (k : Bool → γ) (o : Int) (p0 : Bool) (p1 p2 p3 p4 : Int) (p5 : Bool) (p6 p7 p8 p9 : Int) (p10 : Bool) (p11 p12 p13 p14 p15 p16 : Int) (t1 : Bool) (t2 : Bool × Int × Int × Int × Int × Bool × Int × Int × Int × Int × Int) (t3 : Bool × Int × Int × Int × Int) (t4 : Bool) (t5 : Bool × Int × Int × Int × Int) (t6 t7 t8 t9 t10 t11 t12 t13 t14 t15 t16 : Bool) (t17 : Int × Bool) (t18 t19 t20 t21 t22 t23 t24 t25 t26 t27 t28 t29 t30 t31 : Bool) : γ := bif t1
then bif t2.2.2.2.2.2.2.2.2.2.2 != 0
then bif (law_taken.ok || !true) && true
then k (t6)
else n
else bif (t7 || !true) && ((t8 || !(o != 1 && (!!t9 && true))) && true)
then bif t12
then k (false)
else bif t13
then bif (t14 || !true) && ((t15 || !(t16 && true)) && true)
then bif (t18 || !(!t22 && true)) && true
then bif t24
then bif law_taken.ok
then k (law_taken)
else n
else bif (t25 || !true) && ((t26 || !(!o == 1 && (t27 && true))) && ((law_taken.ok || !(t30 && true)) && true))
then k (t31)
else n
else n
else n
else n
else n
else n
def law_InvKeeps.c {γ : Type} (n : γ) (k : Bool → γ) (o : Int) (p0 : Bool) (p1 p2 p3 p4 : Int) (p5 : Bool) (p6 p7 p8 p9 : Int) (p10 : Bool) (p11 p12 p13 p14 p15 p16 : Int) : γ := let t1 := inv_Solve.ok o p0 p1 p2 p3 p4 p5 p6 p7 p8 p9 p10 p11 p12 p13 p14; let t2 := inv_Solve o p0 p1 p2 p3 p4 p5 p6 p7 p8 p9 p10 p11 p12 p13 p14; let t3 := num_Norm t2.1 t2.2.1 t2.2.2.1 t2.2.2.2.1 t2.2.2.2.2.1; let t4 := bif law_taken then t3.1 else false; let t5 := num_Norm t2.2.2.2.2.2.1 t2.2.2.2.2.2.2.1 t2.2.2.2.2.2.2.2.1 t2.2.2.2.2.2.2.2.2.1 t2.2.2.2.2.2.2.2.2.2.1; let t6 := bif t4 then t5.1 else false; let t7 := nref_Leq.ok t2.1 t2.2.1 t2.2.2.1 t2.2.2.2.1 t2.2.2.2.2.1 p0 p1 p2 p3 p4; let t8 := nref_Leq.ok t2.2.2.2.2.2.1 t2.2.2.2.2.2.2.1 t2.2.2.2.2.2.2.2.1 t2.2.2.2.2.2.2.2.2.1 t2.2.2.2.2.2.2.2.2.2.1 p5 p6 p7 p8 p9; let t9 := nref_Leq t2.1 t2.2.1 t2.2.2.1 t2.2.2.2.1 t2.2.2.2.2.1 p0 p1 p2 p3 p4; let t10 := nref_Leq t2.2.2.2.2.2.1 t2.2.2.2.2.2.2.1 t2.2.2.2.2.2.2.2.1 t2.2.2.2.2.2.2.2.2.1 t2.2.2.2.2.2.2.2.2.2.1 p5 p6 p7 p8 p9; let t11 := bif o != 1 then !t10 else false; let t12 := bif !t9 then true else t11; let t13 := law_result.ok o p15 p16; let t14 := nref_Has.ok p0 p1 p2 p3 p4 p15; let t15 := nref_Has.ok p5 p6 p7 p8 p9 p16; let t16 := nref_Has p0 p1 p2 p3 p4 p15; let t17 := law_result o p15 p16; let t18 := nref_Has.ok p10 p11 p12 p13 p14 t17.1; let t19 := nref_Has p5 p6 p7 p8 p9 p16; let t20 := bif t19 then true else o == 1; let t21 := bif t16 then t20 else false; let t22 := bif !t17.2 then true else !t21; let t23 := nref_Has p10 p11 p12 p13 p14 t17.1; let t24 := bif t22 then true else !t23; let t25 := nref_Has.ok t2.1 t2.2.1 t2.2.2.1 t2.2.2.2.1 t2.2.2.2.2.1 p15; let t26 := nref_Has.ok t2.2.2.2.2.2.1 t2.2.2.2.2.2.2.1 t2.2.2.2.2.2.2.2.1 t2.2.2.2.2.2.2.2.2.1 t2.2.2.2.2.2.2.2.2.2.1 p16; let t27 := nref_Has t2.1 t2.2.1 t2.2.2.1 t2.2.2.2.1 t2.2.2.2.2.1 p15; let t28 := nref_Has t2.2.2.2.2.2.1 t2.2.2.2.2.2.2.1 t2.2.2.2.2.2.2.2.1 t2.2.2.2.2.2.2.2.2.1 t2.2.2.2.2.2.2.2.2.2.1 p16; let t29 := bif o == 1 then true else t28; let t30 := bif t27 then t29 else false; let t31 := bif t30 then law_taken else false; law_InvKeeps.c0 n k o p0 p1 p2 p3 p4 p5 p6 p7 p8 p9 p10 p11 p12 p13 p14 p15 p16 t1 t2 t3 t4 t5 t6 t7 t8 t9 t10 t11 t12 t13 t14 t15 t16 t17 t18 t19 t20 t21 t22 t23 t24 t25 t26 t27 t28 t29 t30 t31
theorem law_InvKeeps.r (o : Int) (p0 : Bool) (p1 p2 p3 p4 : Int) (p5 : Bool) (p6 p7 p8 p9 : Int) (p10 : Bool) (p11 p12 p13 p14 p15 p16 : Int) : runF P G (tab L_law_result) { merge := true, glue := true } 60 Tryz.f10 [.int .i64 o, .agg #[.bool p0, .int .i64 p1, .int .i64 p2, .int .u64 p3, .int .u64 p4, .bool p5, .int .i64 p6, .int .i64 p7, .int .u64 p8, .int .u64 p9, .bool p10, .int .i64 p11, .int .i64 p12, .int .u64 p13, .int .u64 p14, .int .i64 p15, .int .i64 p16]] = law_InvKeeps.c none (fun q => some (.bool (q) : Value)) o p0 p1 p2 p3 p4 p5 p6 p7 p8 p9 p10 p11 p12 p13 p14 p15 p16 := by kernel_rfl
end
end Go.Proofs.YtonpbbhlmapbdaaGreatDoor.V
