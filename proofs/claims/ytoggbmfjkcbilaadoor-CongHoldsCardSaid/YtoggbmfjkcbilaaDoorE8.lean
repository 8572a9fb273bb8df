/- What the functions of this seat compute, told by evaluation of their code. Conditions: none. -/
import Derived.Test.YtoggbmfjkcbilaaDoorE6
set_option linter.unusedVariables false
set_option linter.unusedSimpArgs false
namespace Go.Proofs.YtoggbmfjkcbilaaDoor.V
open Go Go.Wk
noncomputable section

def law_CongSteps.c0 {γ : Type} (n : γ) (k : Bool → γ) (a0 : Int) (a1 : Int) (b : Int) (c : Int) (t1 : Int × Bool) (t2 : Bool) (t3 : Bool) (t4 : Int × Bool) (t5 : Bool) (t6 : Bool) (t7 : Bool) (t8 : Bool) (t9 : Bool) (t10 : Bool) (t11 : Bool) (t12 : Bool) (t13 : Bool) (t14 : Bool) (t15 : Bool) (t16 : Bool) (t17 : Bool) (t18 : Bool) (t19 : Bool) (t20 : Bool) (t21 : Bool) (t22 : Bool) (t23 : Bool) (t24 : Bool) (t25 : Bool) (t26 : Bool) (t27 : Bool) (t28 : Bool) : γ := bif law_works.ok
  then bif !law_works
   then k (false)
   else bif (t2 || !(!decide (t1.fst < b) && (t1.snd && (!t6 && true)))) && ((t7 || !(!decide (t4.fst > b) && (t4.snd && (!t11 && true)))) && true)
    then bif t15
     then k (false)
     else bif t16
      then bif t17
       then bif t22
        then k (false)
        else bif (t23 || !true) && true
         then k (t28)
         else n
       else bif (t23 || !true) && true
        then k (t28)
        else n
      else n
    else n
  else n
def law_CongSteps.c {γ : Type} (n : γ) (k : Bool → γ) (a0 : Int) (a1 : Int) (b : Int) (c : Int) : γ := let t1 := cong_Up a0 a1 b; let t2 := law_inside.ok a0 a1 t1.fst; let t3 := bif !t1.snd then t1.fst != 0 else false; let t4 := cong_Down a0 a1 b; let t5 := bif !t4.snd then t4.fst != 0 else false; let t6 := bif t3 then true else t5; let t7 := law_inside.ok a0 a1 t4.fst; let t8 := law_inside a0 a1 t1.fst; let t9 := bif decide (t1.fst < b) then true else !t8; let t10 := bif t1.snd then t9 else false; let t11 := bif t6 then true else t10; let t12 := law_inside a0 a1 t4.fst; let t13 := bif decide (t4.fst > b) then true else !t12; let t14 := bif t4.snd then t13 else false; let t15 := bif t11 then true else t14; let t16 := law_inside.ok a0 a1 c; let t17 := law_inside a0 a1 c; let t18 := bif !t1.snd then true else decide (t1.fst > c); let t19 := bif decide (c ≥ b) then t18 else false; let t20 := bif !t4.snd then true else decide (t4.fst < c); let t21 := bif decide (c ≤ b) then t20 else false; let t22 := bif t19 then true else t21; let t23 := law_inside.ok a0 a1 b; let t24 := law_inside a0 a1 b; let t25 := bif t1.snd then t4.snd else false; let t26 := bif t25 then t1.fst == b else false; let t27 := bif t26 then t4.fst == b else false; let t28 := bif !t24 then true else t27; law_CongSteps.c0 n k a0 a1 b c t1 t2 t3 t4 t5 t6 t7 t8 t9 t10 t11 t12 t13 t14 t15 t16 t17 t18 t19 t20 t21 t22 t23 t24 t25 t26 t27 t28
def law_CongSteps.ok (a0 : Int) (a1 : Int) (b : Int) (c : Int) : Bool := law_CongSteps.c false (fun _ => true) a0 a1 b c
def law_CongSteps (a0 : Int) (a1 : Int) (b : Int) (c : Int) : Bool := law_CongSteps.c (false) id a0 a1 b c
def law_CongSteps.F : FV := mkF (cP (cA (cP (cI .u64) (cP (cI .u64) cU))) (cP (cI .i64) (cP (cI .i64) cU))) (fun | ((a0, (a1, ())), (b, (c, ()))) => law_CongSteps.ok a0 a1 b c) (fun | ((a0, (a1, ())), (b, (c, ()))) => .bool (law_CongSteps a0 a1 b c))
def L_law_CongSteps : TL := (5, law_CongSteps.F) :: L_law_CongSets
theorem law_CongSteps.p0 {γ : Type} (k : Bool → γ) (a0 : Int) (a1 : Int) (b : Int) (c : Int) (t1 : Int × Bool) (t2 : Bool) (t3 : Bool) (t4 : Int × Bool) (t5 : Bool) (t6 : Bool) (t7 : Bool) (t8 : Bool) (t9 : Bool) (t10 : Bool) (t11 : Bool) (t12 : Bool) (t13 : Bool) (t14 : Bool) (t15 : Bool) (t16 : Bool) (t17 : Bool) (t18 : Bool) (t19 : Bool) (t20 : Bool) (t21 : Bool) (t22 : Bool) (t23 : Bool) (t24 : Bool) (t25 : Bool) (t26 : Bool) (t27 : Bool) (t28 : Bool) : law_CongSteps.c0 false (fun _ => true) a0 a1 b c t1 t2 t3 t4 t5 t6 t7 t8 t9 t10 t11 t12 t13 t14 t15 t16 t17 t18 t19 t20 t21 t22 t23 t24 t25 t26 t27 t28 = true → law_CongSteps.c0 none (fun q => some (k q)) a0 a1 b c t1 t2 t3 t4 t5 t6 t7 t8 t9 t10 t11 t12 t13 t14 t15 t16 t17 t18 t19 t20 t21 t22 t23 t24 t25 t26 t27 t28 = some (k (law_CongSteps.c0 (false) id a0 a1 b c t1 t2 t3 t4 t5 t6 t7 t8 t9 t10 t11 t12 t13 t14 t15 t16 t17 t18 t19 t20 t21 t22 t23 t24 t25 t26 t27 t28)) := by
  unfold law_CongSteps.c0; (repeat' (first | (apply pn k) | (exact pn_none _ _) | (exact pn_leaf k _)))
theorem law_CongSteps.p {γ : Type} (k : Bool → γ) (a0 : Int) (a1 : Int) (b : Int) (c : Int) (h : law_CongSteps.ok a0 a1 b c = true) : law_CongSteps.c none (fun q => some (k q)) a0 a1 b c = some (k (law_CongSteps a0 a1 b c)) :=
  let t1 := cong_Up a0 a1 b; let t2 := law_inside.ok a0 a1 t1.fst; let t3 := bif !t1.snd then t1.fst != 0 else false; let t4 := cong_Down a0 a1 b; let t5 := bif !t4.snd then t4.fst != 0 else false; let t6 := bif t3 then true else t5; let t7 := law_inside.ok a0 a1 t4.fst; let t8 := law_inside a0 a1 t1.fst; let t9 := bif decide (t1.fst < b) then true else !t8; let t10 := bif t1.snd then t9 else false; let t11 := bif t6 then true else t10; let t12 := law_inside a0 a1 t4.fst; let t13 := bif decide (t4.fst > b) then true else !t12; let t14 := bif t4.snd then t13 else false; let t15 := bif t11 then true else t14; let t16 := law_inside.ok a0 a1 c; let t17 := law_inside a0 a1 c; let t18 := bif !t1.snd then true else decide (t1.fst > c); let t19 := bif decide (c ≥ b) then t18 else false; let t20 := bif !t4.snd then true else decide (t4.fst < c); let t21 := bif decide (c ≤ b) then t20 else false; let t22 := bif t19 then true else t21; let t23 := law_inside.ok a0 a1 b; let t24 := law_inside a0 a1 b; let t25 := bif t1.snd then t4.snd else false; let t26 := bif t25 then t1.fst == b else false; let t27 := bif t26 then t4.fst == b else false; let t28 := bif !t24 then true else t27; law_CongSteps.p0 k a0 a1 b c t1 t2 t3 t4 t5 t6 t7 t8 t9 t10 t11 t12 t13 t14 t15 t16 t17 t18 t19 t20 t21 t22 t23 t24 t25 t26 t27 t28 h
theorem law_CongSteps.r (a0 : Int) (a1 : Int) (b : Int) (c : Int) : runF P GS (tab L_law_CongSets) { merge := true, glue := true } 60 Tryd.f5 [.agg #[.int .u64 a0, .int .u64 a1], .int .i64 b, .int .i64 c] = law_CongSteps.c none (fun q => some (.bool (q) : Value)) a0 a1 b c := by kernel_rfl
theorem law_CongSteps.t : TabOK P GS (tab L_law_CongSteps) :=
  TabOK_mkL CS law_CongSets.t Tryd.func5 (by kernel_rfl) { merge := true, glue := true } (fun c _ => LoopsOK_nil c) 60 (by
    rintro ⟨⟨a0, ⟨a1, ⟨⟩⟩⟩, ⟨b, ⟨c, ⟨⟩⟩⟩⟩ h
    exact (law_CongSteps.r a0 a1 b c).trans (law_CongSteps.p (fun q => (.bool (q) : Value)) a0 a1 b c h))

def law_CongMeets.c0 {γ : Type} (n : γ) (k : Bool → γ) (a0 : Int) (a1 : Int) (b0 : Int) (b1 : Int) (c0 : Int) (c1 : Int) (d : Int) (t1 : Bool) (t2 : Bool) (t3 : Bool) (t4 : Bool) (t5 : Bool) (t6 : Bool) (t7 : Int × Int × Bool) (t8 : Int × Int × Bool) (t9 : Bool) (t10 : Bool) (t11 : Int × Int) (t12 : Int × Int) (t13 : Bool) (t14 : Bool) (t15 : Bool) (t16 : Bool) (t17 : Bool) (t18 : Bool) (t19 : Bool) (t20 : Bool) (t21 : Bool) (t22 : Bool) (t23 : Bool) (t24 : Bool) (t25 : Bool) (t26 : Bool) (t27 : Bool) (t28 : Bool) (t29 : Bool) (t30 : Bool) (t31 : Bool) (t32 : Bool) (t33 : Bool) (t34 : Bool) (t35 : Bool) (t36 : Bool) (t37 : Bool) (t38 : Bool) (t39 : Bool) (t40 : Bool) (t41 : Bool) (t42 : Bool) (t43 : Bool) (t44 : Bool) (t45 : Bool) (t46 : Bool) (t47 : Bool) (t48 : Bool) (t49 : Int × Int) (t50 : Bool) (t51 : Bool) (t52 : Bool) (t53 : Bool) : γ := bif law_works.ok
  then bif !law_works
   then k (false)
   else bif t1
    then bif t2
     then bif t3
      then bif t4
       then bif t5
        then bif (t6 || !(!t9 && true)) && ((t10 || !(t7.snd.snd && (!t16 && true))) && ((t17 || !(t19 && (!t23 && true))) && true))
         then bif t26
          then k (false)
          else bif (t27 || !true) && ((t28 || !(!!t29 && true)) && ((t30 || !(!t32 && true)) && ((t33 || !(t34 && (!t32 && true))) && ((t35 || !(t37 && (!t32 && true))) && ((t38 || !(!t41 && true)) && ((t38 || !(!t45 && true)) && ((t33 || !(t42 && (!t45 && true))) && ((t30 || !(t46 && (!t45 && true))) && true))))))))
           then bif t48
            then k (false)
            else bif !t7.snd.snd
             then k (t7.fst == 0 && (t7.snd.fst == 0 && true))
             else bif (t38 || !true) && true
              then k (t53)
              else n
           else n
         else n
        else n
       else n
      else n
     else n
    else n
  else n
def law_CongMeets.c {γ : Type} (n : γ) (k : Bool → γ) (a0 : Int) (a1 : Int) (b0 : Int) (b1 : Int) (c0 : Int) (c1 : Int) (d : Int) : γ := let t1 := cong_Meet.ok a0 a1 b0 b1; let t2 := cong_Meet.ok b0 b1 a0 a1; let t3 := cong_Join.ok a0 a1 b0 b1; let t4 := law_inside.ok a0 a1 d; let t5 := law_inside.ok b0 b1 d; let t6 := cong_Join.ok b0 b1 a0 a1; let t7 := cong_Meet a0 a1 b0 b1; let t8 := cong_Meet b0 b1 a0 a1; let t9 := bif !(t7.fst == t8.fst && (t7.snd.fst == t8.snd.fst && true)) then true else !t7.snd.snd == t8.snd.snd; let t10 := law_inside.ok t7.fst t7.snd.fst d; let t11 := cong_Join a0 a1 b0 b1; let t12 := cong_Join b0 b1 a0 a1; let t13 := bif t9 then true else !(t11.fst == t12.fst && (t11.snd == t12.snd && true)); let t14 := cong_Has a0 a1 d; let t15 := law_inside a0 a1 d; let t16 := bif t13 then true else !t14 == t15; let t17 := law_inside.ok t11.fst t11.snd d; let t18 := law_inside b0 b1 d; let t19 := bif t15 then true else t18; let t20 := law_inside t7.fst t7.snd.fst d; let t21 := bif t7.snd.snd then t20 else false; let t22 := bif t15 then t18 else false; let t23 := bif t16 then true else !t21 == t22; let t24 := law_inside t11.fst t11.snd d; let t25 := bif t19 then !t24 else false; let t26 := bif t23 then true else t25; let t27 := cong_Leq.ok a0 a1 t11.fst t11.snd; let t28 := cong_Leq.ok b0 b1 t11.fst t11.snd; let t29 := cong_Leq a0 a1 t11.fst t11.snd; let t30 := cong_Leq.ok a0 a1 c0 c1; let t31 := cong_Leq b0 b1 t11.fst t11.snd; let t32 := bif !t29 then true else !t31; let t33 := cong_Leq.ok b0 b1 c0 c1; let t34 := cong_Leq a0 a1 c0 c1; let t35 := cong_Leq.ok t11.fst t11.snd c0 c1; let t36 := cong_Leq b0 b1 c0 c1; let t37 := bif t34 then t36 else false; let t38 := cong_Leq.ok a0 a1 b0 b1; let t39 := cong_Leq t11.fst t11.snd c0 c1; let t40 := bif t37 then !t39 else false; let t41 := bif t32 then true else t40; let t42 := cong_Leq a0 a1 b0 b1; let t43 := bif t42 then t15 else false; let t44 := bif t43 then !t18 else false; let t45 := bif t41 then true else t44; let t46 := bif t42 then t36 else false; let t47 := bif t46 then !t34 else false; let t48 := bif t45 then true else t47; let t49 := cong_Norm b0 b1; let t50 := bif t11.fst == 0 then true else decide (t11.snd < t11.fst); let t51 := bif t42 == (t49.fst == t11.fst && (t49.snd == t11.snd && true)) then t50 else false; let t52 := bif t7.fst == 0 then true else decide (t7.snd.fst < t7.fst); let t53 := bif t51 then t52 else false; law_CongMeets.c0 n k a0 a1 b0 b1 c0 c1 d t1 t2 t3 t4 t5 t6 t7 t8 t9 t10 t11 t12 t13 t14 t15 t16 t17 t18 t19 t20 t21 t22 t23 t24 t25 t26 t27 t28 t29 t30 t31 t32 t33 t34 t35 t36 t37 t38 t39 t40 t41 t42 t43 t44 t45 t46 t47 t48 t49 t50 t51 t52 t53
def law_CongMeets.ok (a0 : Int) (a1 : Int) (b0 : Int) (b1 : Int) (c0 : Int) (c1 : Int) (d : Int) : Bool := law_CongMeets.c false (fun _ => true) a0 a1 b0 b1 c0 c1 d
def law_CongMeets (a0 : Int) (a1 : Int) (b0 : Int) (b1 : Int) (c0 : Int) (c1 : Int) (d : Int) : Bool := law_CongMeets.c (false) id a0 a1 b0 b1 c0 c1 d
def law_CongMeets.F : FV := mkF (cP (cA (cP (cI .u64) (cP (cI .u64) cU))) (cP (cA (cP (cI .u64) (cP (cI .u64) cU))) (cP (cA (cP (cI .u64) (cP (cI .u64) cU))) (cP (cI .i64) cU)))) (fun | ((a0, (a1, ())), ((b0, (b1, ())), ((c0, (c1, ())), (d, ())))) => law_CongMeets.ok a0 a1 b0 b1 c0 c1 d) (fun | ((a0, (a1, ())), ((b0, (b1, ())), ((c0, (c1, ())), (d, ())))) => .bool (law_CongMeets a0 a1 b0 b1 c0 c1 d))
def L_law_CongMeets : TL := (3, law_CongMeets.F) :: L_law_CongSteps
theorem law_CongMeets.p0 {γ : Type} (k : Bool → γ) (a0 : Int) (a1 : Int) (b0 : Int) (b1 : Int) (c0 : Int) (c1 : Int) (d : Int) (t1 : Bool) (t2 : Bool) (t3 : Bool) (t4 : Bool) (t5 : Bool) (t6 : Bool) (t7 : Int × Int × Bool) (t8 : Int × Int × Bool) (t9 : Bool) (t10 : Bool) (t11 : Int × Int) (t12 : Int × Int) (t13 : Bool) (t14 : Bool) (t15 : Bool) (t16 : Bool) (t17 : Bool) (t18 : Bool) (t19 : Bool) (t20 : Bool) (t21 : Bool) (t22 : Bool) (t23 : Bool) (t24 : Bool) (t25 : Bool) (t26 : Bool) (t27 : Bool) (t28 : Bool) (t29 : Bool) (t30 : Bool) (t31 : Bool) (t32 : Bool) (t33 : Bool) (t34 : Bool) (t35 : Bool) (t36 : Bool) (t37 : Bool) (t38 : Bool) (t39 : Bool) (t40 : Bool) (t41 : Bool) (t42 : Bool) (t43 : Bool) (t44 : Bool) (t45 : Bool) (t46 : Bool) (t47 : Bool) (t48 : Bool) (t49 : Int × Int) (t50 : Bool) (t51 : Bool) (t52 : Bool) (t53 : Bool) : law_CongMeets.c0 false (fun _ => true) a0 a1 b0 b1 c0 c1 d t1 t2 t3 t4 t5 t6 t7 t8 t9 t10 t11 t12 t13 t14 t15 t16 t17 t18 t19 t20 t21 t22 t23 t24 t25 t26 t27 t28 t29 t30 t31 t32 t33 t34 t35 t36 t37 t38 t39 t40 t41 t42 t43 t44 t45 t46 t47 t48 t49 t50 t51 t52 t53 = true → law_CongMeets.c0 none (fun q => some (k q)) a0 a1 b0 b1 c0 c1 d t1 t2 t3 t4 t5 t6 t7 t8 t9 t10 t11 t12 t13 t14 t15 t16 t17 t18 t19 t20 t21 t22 t23 t24 t25 t26 t27 t28 t29 t30 t31 t32 t33 t34 t35 t36 t37 t38 t39 t40 t41 t42 t43 t44 t45 t46 t47 t48 t49 t50 t51 t52 t53 = some (k (law_CongMeets.c0 (false) id a0 a1 b0 b1 c0 c1 d t1 t2 t3 t4 t5 t6 t7 t8 t9 t10 t11 t12 t13 t14 t15 t16 t17 t18 t19 t20 t21 t22 t23 t24 t25 t26 t27 t28 t29 t30 t31 t32 t33 t34 t35 t36 t37 t38 t39 t40 t41 t42 t43 t44 t45 t46 t47 t48 t49 t50 t51 t52 t53)) := by
  unfold law_CongMeets.c0; (repeat' (first | (apply pn k) | (exact pn_none _ _) | (exact pn_leaf k _)))
theorem law_CongMeets.p {γ : Type} (k : Bool → γ) (a0 : Int) (a1 : Int) (b0 : Int) (b1 : Int) (c0 : Int) (c1 : Int) (d : Int) (h : law_CongMeets.ok a0 a1 b0 b1 c0 c1 d = true) : law_CongMeets.c none (fun q => some (k q)) a0 a1 b0 b1 c0 c1 d = some (k (law_CongMeets a0 a1 b0 b1 c0 c1 d)) :=
  let t1 := cong_Meet.ok a0 a1 b0 b1; let t2 := cong_Meet.ok b0 b1 a0 a1; let t3 := cong_Join.ok a0 a1 b0 b1; let t4 := law_inside.ok a0 a1 d; let t5 := law_inside.ok b0 b1 d; let t6 := cong_Join.ok b0 b1 a0 a1; let t7 := cong_Meet a0 a1 b0 b1; let t8 := cong_Meet b0 b1 a0 a1; let t9 := bif !(t7.fst == t8.fst && (t7.snd.fst == t8.snd.fst && true)) then true else !t7.snd.snd == t8.snd.snd; let t10 := law_inside.ok t7.fst t7.snd.fst d; let t11 := cong_Join a0 a1 b0 b1; let t12 := cong_Join b0 b1 a0 a1; let t13 := bif t9 then true else !(t11.fst == t12.fst && (t11.snd == t12.snd && true)); let t14 := cong_Has a0 a1 d; let t15 := law_inside a0 a1 d; let t16 := bif t13 then true else !t14 == t15; let t17 := law_inside.ok t11.fst t11.snd d; let t18 := law_inside b0 b1 d; let t19 := bif t15 then true else t18; let t20 := law_inside t7.fst t7.snd.fst d; let t21 := bif t7.snd.snd then t20 else false; let t22 := bif t15 then t18 else false; let t23 := bif t16 then true else !t21 == t22; let t24 := law_inside t11.fst t11.snd d; let t25 := bif t19 then !t24 else false; let t26 := bif t23 then true else t25; let t27 := cong_Leq.ok a0 a1 t11.fst t11.snd; let t28 := cong_Leq.ok b0 b1 t11.fst t11.snd; let t29 := cong_Leq a0 a1 t11.fst t11.snd; let t30 := cong_Leq.ok a0 a1 c0 c1; let t31 := cong_Leq b0 b1 t11.fst t11.snd; let t32 := bif !t29 then true else !t31; let t33 := cong_Leq.ok b0 b1 c0 c1; let t34 := cong_Leq a0 a1 c0 c1; let t35 := cong_Leq.ok t11.fst t11.snd c0 c1; let t36 := cong_Leq b0 b1 c0 c1; let t37 := bif t34 then t36 else false; let t38 := cong_Leq.ok a0 a1 b0 b1; let t39 := cong_Leq t11.fst t11.snd c0 c1; let t40 := bif t37 then !t39 else false; let t41 := bif t32 then true else t40; let t42 := cong_Leq a0 a1 b0 b1; let t43 := bif t42 then t15 else false; let t44 := bif t43 then !t18 else false; let t45 := bif t41 then true else t44; let t46 := bif t42 then t36 else false; let t47 := bif t46 then !t34 else false; let t48 := bif t45 then true else t47; let t49 := cong_Norm b0 b1; let t50 := bif t11.fst == 0 then true else decide (t11.snd < t11.fst); let t51 := bif t42 == (t49.fst == t11.fst && (t49.snd == t11.snd && true)) then t50 else false; let t52 := bif t7.fst == 0 then true else decide (t7.snd.fst < t7.fst); let t53 := bif t51 then t52 else false; law_CongMeets.p0 k a0 a1 b0 b1 c0 c1 d t1 t2 t3 t4 t5 t6 t7 t8 t9 t10 t11 t12 t13 t14 t15 t16 t17 t18 t19 t20 t21 t22 t23 t24 t25 t26 t27 t28 t29 t30 t31 t32 t33 t34 t35 t36 t37 t38 t39 t40 t41 t42 t43 t44 t45 t46 t47 t48 t49 t50 t51 t52 t53 h
theorem law_CongMeets.r (a0 : Int) (a1 : Int) (b0 : Int) (b1 : Int) (c0 : Int) (c1 : Int) (d : Int) : runF P GS (tab L_law_CongSteps) { merge := true, glue := true } 60 Tryd.f3 [.agg #[.int .u64 a0, .int .u64 a1], .agg #[.int .u64 b0, .int .u64 b1], .agg #[.int .u64 c0, .int .u64 c1], .int .i64 d] = law_CongMeets.c none (fun q => some (.bool (q) : Value)) a0 a1 b0 b1 c0 c1 d := by kernel_rfl
theorem law_CongMeets.t : TabOK P GS (tab L_law_CongMeets) :=
  TabOK_mkL CS law_CongSteps.t Tryd.func3 (by kernel_rfl) { merge := true, glue := true } (fun c _ => LoopsOK_nil c) 60 (by
    rintro ⟨⟨a0, ⟨a1, ⟨⟩⟩⟩, ⟨⟨b0, ⟨b1, ⟨⟩⟩⟩, ⟨⟨c0, ⟨c1, ⟨⟩⟩⟩, ⟨d, ⟨⟩⟩⟩⟩⟩ h
    exact (law_CongMeets.r a0 a1 b0 b1 c0 c1 d).trans (law_CongMeets.p (fun q => (.bool (q) : Value)) a0 a1 b0 b1 c0 c1 d h))

end
end Go.Proofs.YtoggbmfjkcbilaaDoor.V
