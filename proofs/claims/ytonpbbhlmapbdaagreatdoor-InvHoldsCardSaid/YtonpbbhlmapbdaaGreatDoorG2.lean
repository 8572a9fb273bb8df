/- What the functions of this seat compute, told by evaluation of their code. Conditions: none. -/
import Derived.Test.YtonpbbhlmapbdaaGreatDoorG1
set_option linter.unusedVariables false
set_option linter.unusedSimpArgs false
namespace Go.Proofs.YtonpbbhlmapbdaaGreatDoor.V
open Go Go.Wk
noncomputable section

def law_taken.c0 {γ : Type} (n : γ) (k : Bool → γ)  (t1 t2 : Bool) (t3 t4 t5 t6 : N5) (t7 : Bool) (t8 t9 : N5) (t10 t11 t12 t13 : Bool) (t14 t15 : N5) (t16 : Bool) (t17 : Bool × Int × Int × Int × Int × Bool × Int × Int × Int × Int × Int) (t18 : Bool) (t19 : Int × Int) (t20 t21 t22 : Bool) (t23 : N5) (t24 t25 t26 : Bool) (t27 : N5) (t28 : Bool) (t29 : N5) (t30 t31 : Bool) (t32 t33 : Bool × Int × Int × Int × Int × N5) (t34 t35 t36 : Bool) : γ := bif t1
  then bif t2
   then bif t11
    then bif t12
     then bif t13
      then bif t16
       then bif t21
        then k (false)
        else bif (t22 || !true) && ((t2 || !(num_Bot.1 == t23.1 && (num_Bot.2.1 == t23.2.1 && (num_Bot.2.2.1 == t23.2.2.1 && true) && (num_Bot.2.2.2.1 == t23.2.2.2.1 && (num_Bot.2.2.2.2 == t23.2.2.2.2 && true) && true)) && true)) && ((t24 || !(t25 && true)) && ((t26 || !(t28 && true)) && true)))
         then k (t30)
         else n
       else n
      else n
     else n
    else bif t31
     then bif t12
      then bif t13
       then bif t16
        then bif t21
         then k (false)
         else bif (t22 || !true) && ((t2 || !(t33.1 == t23.1 && (t33.2.1 == t23.2.1 && (t33.2.2.1 == t23.2.2.1 && true) && (t33.2.2.2.1 == t23.2.2.2.1 && (t33.2.2.2.2.1 == t23.2.2.2.2 && true) && true)) && true)) && ((t24 || !(t34 && true)) && ((t26 || !(t35 && true)) && true)))
          then k (t36)
          else n
        else n
       else n
      else n
     else n
   else n
  else n
def law_taken.c {γ : Type} (n : γ) (k : Bool → γ)  : γ := let t1 := nref_Range.ok 0 10; let t2 := nref_Range.ok 1 2; let t3 := nref_Range 0 10; let t4 := num_Norm t3.1 t3.2.1 t3.2.2.1 t3.2.2.2.1 t3.2.2.2.2; let t5 := nref_Const 5; let t6 := num_Norm t5.1 t5.2.1 t5.2.2.1 t5.2.2.2.1 t5.2.2.2.2; let t7 := bif t4.1 then true else t6.1; let t8 := nref_Range 1 2; let t9 := num_Norm t8.1 t8.2.1 t8.2.2.1 t8.2.2.2.1 t8.2.2.2.2; let t10 := bif t9.1 then 3 != 1 else false; let t11 := bif t7 then true else t10; let t12 := nref_Range.ok 0 9; let t13 := nref_Range.ok 0 5; let t14 := nref_Range 0 9; let t15 := nref_Range 0 5; let t16 := inv_Compare.ok 8 t14.1 t14.2.1 t14.2.2.1 t14.2.2.2.1 t14.2.2.2.2 t15.1 t15.2.1 t15.2.2.1 t15.2.2.2.1 t15.2.2.2.2; let t17 := inv_Compare 8 t14.1 t14.2.1 t14.2.2.1 t14.2.2.2.1 t14.2.2.2.2 t15.1 t15.2.1 t15.2.2.1 t15.2.2.2.1 t15.2.2.2.2; let t18 := bif 0 != 0 then true else t17.2.2.2.2.2.2.2.2.2.2 != 0; let t19 := inv_Negate 8; let t20 := bif t18 then true else t19.2 != 0; let t21 := bif t20 then true else t19.1 != 11; let t22 := nref_Range.ok 3 4; let t23 := nref_Range 3 4; let t24 := nref_Range.ok 0 4; let t25 := bif num_Bot.1 == t23.1 && (num_Bot.2.1 == t23.2.1 && (num_Bot.2.2.1 == t23.2.2.1 && true) && (num_Bot.2.2.2.1 == t23.2.2.2.1 && (num_Bot.2.2.2.2 == t23.2.2.2.2 && true) && true)) then num_Bot.1 == t8.1 && (num_Bot.2.1 == t8.2.1 && (num_Bot.2.2.1 == t8.2.2.1 && true) && (num_Bot.2.2.2.1 == t8.2.2.2.1 && (num_Bot.2.2.2.2 == t8.2.2.2.2 && true) && true)) else false; let t26 := nref_Range.ok 1 5; let t27 := nref_Range 0 4; let t28 := bif t25 then t17.1 == t27.1 && (t17.2.1 == t27.2.1 && (t17.2.2.1 == t27.2.2.1 && true) && (t17.2.2.2.1 == t27.2.2.2.1 && (t17.2.2.2.2.1 == t27.2.2.2.2 && true) && true)) else false; let t29 := nref_Range 1 5; let t30 := bif t28 then t17.2.2.2.2.2.1 == t29.1 && (t17.2.2.2.2.2.2.1 == t29.2.1 && (t17.2.2.2.2.2.2.2.1 == t29.2.2.1 && true) && (t17.2.2.2.2.2.2.2.2.1 == t29.2.2.2.1 && (t17.2.2.2.2.2.2.2.2.2.1 == t29.2.2.2.2 && true) && true)) else false; let t31 := inv_added.ok t4.1 t4.2.1 t4.2.2.1 t4.2.2.2.1 t4.2.2.2.2 t9.1 t9.2.1 t9.2.2.1 t9.2.2.2.1 t9.2.2.2.2 t6.1 t6.2.1 t6.2.2.1 t6.2.2.2.1 t6.2.2.2.2; let t32 := inv_added t4.1 t4.2.1 t4.2.2.1 t4.2.2.2.1 t4.2.2.2.2 t9.1 t9.2.1 t9.2.2.1 t9.2.2.2.1 t9.2.2.2.2 t6.1 t6.2.1 t6.2.2.1 t6.2.2.2.1 t6.2.2.2.2; let t33 := inv_told t32.1 t32.2.1 t32.2.2.1 t32.2.2.2.1 t32.2.2.2.2.1 t32.2.2.2.2.2.1 t32.2.2.2.2.2.2.1 t32.2.2.2.2.2.2.2.1 t32.2.2.2.2.2.2.2.2.1 t32.2.2.2.2.2.2.2.2.2; let t34 := bif t33.1 == t23.1 && (t33.2.1 == t23.2.1 && (t33.2.2.1 == t23.2.2.1 && true) && (t33.2.2.2.1 == t23.2.2.2.1 && (t33.2.2.2.2.1 == t23.2.2.2.2 && true) && true)) then t33.2.2.2.2.2.1 == t8.1 && (t33.2.2.2.2.2.2.1 == t8.2.1 && (t33.2.2.2.2.2.2.2.1 == t8.2.2.1 && true) && (t33.2.2.2.2.2.2.2.2.1 == t8.2.2.2.1 && (t33.2.2.2.2.2.2.2.2.2 == t8.2.2.2.2 && true) && true)) else false; let t35 := bif t34 then t17.1 == t27.1 && (t17.2.1 == t27.2.1 && (t17.2.2.1 == t27.2.2.1 && true) && (t17.2.2.2.1 == t27.2.2.2.1 && (t17.2.2.2.2.1 == t27.2.2.2.2 && true) && true)) else false; let t36 := bif t35 then t17.2.2.2.2.2.1 == t29.1 && (t17.2.2.2.2.2.2.1 == t29.2.1 && (t17.2.2.2.2.2.2.2.1 == t29.2.2.1 && true) && (t17.2.2.2.2.2.2.2.2.1 == t29.2.2.2.1 && (t17.2.2.2.2.2.2.2.2.2.1 == t29.2.2.2.2 && true) && true)) else false; law_taken.c0 n k  t1 t2 t3 t4 t5 t6 t7 t8 t9 t10 t11 t12 t13 t14 t15 t16 t17 t18 t19 t20 t21 t22 t23 t24 t25 t26 t27 t28 t29 t30 t31 t32 t33 t34 t35 t36
def law_taken.ok  : Bool := law_taken.c false (fun _ => true) 
def law_taken  : Bool := law_taken.c (false) id 
def law_taken.F : FV := mkF cU (fun | () => law_taken.ok ) (fun | () => .bool (law_taken))
def L_law_taken : TL := (46, law_taken.F) :: L_inv_Negate
theorem law_taken.p0 {γ : Type} (k : Bool → γ) (t1 t2 t3 t4 t5 t6 t7 t8 t9 t10 t11 t12 t13 t14 t15 t16 t17 t18 t19 t20 t21 t22 t23 t24 t25 t26 t27 t28 t29 t30 t31 t32 t33 t34 t35 t36) : law_taken.c0 false (fun _ => true)  t1 t2 t3 t4 t5 t6 t7 t8 t9 t10 t11 t12 t13 t14 t15 t16 t17 t18 t19 t20 t21 t22 t23 t24 t25 t26 t27 t28 t29 t30 t31 t32 t33 t34 t35 t36 = true → law_taken.c0 none (fun q => some (k q))  t1 t2 t3 t4 t5 t6 t7 t8 t9 t10 t11 t12 t13 t14 t15 t16 t17 t18 t19 t20 t21 t22 t23 t24 t25 t26 t27 t28 t29 t30 t31 t32 t33 t34 t35 t36 = some (k (law_taken.c0 (false) id  t1 t2 t3 t4 t5 t6 t7 t8 t9 t10 t11 t12 t13 t14 t15 t16 t17 t18 t19 t20 t21 t22 t23 t24 t25 t26 t27 t28 t29 t30 t31 t32 t33 t34 t35 t36)) := by
  unfold law_taken.c0; (repeat' (first | (apply pn k) | (exact pn_none _ _) | (exact pn_leaf k _)))
theorem law_taken.p {γ : Type} (k : Bool → γ) (h : law_taken.ok = true) : law_taken.c none (fun q => some (k q)) = some (k (law_taken)) := by
  revert h; unfold law_taken.ok law_taken law_taken.c; exact fun h => law_taken.p0 k _ _ _ _ _ _ _ _ _ _ _ _ _ _ _ _ _ _ _ _ _ _ _ _ _ _ _ _ _ _ _ _ _ _ _ _ h
theorem law_taken.r  : runF P G (tab L_inv_Negate) { merge := true, glue := true } 60 Tryz.f46 [] = law_taken.c none (fun q => some (.bool (q) : Value))  := by kernel_rfl
theorem law_taken.t : TabOK P G (tab L_law_taken) :=
  TabOK_mkL C inv_Negate.t Tryz.func46 (by kernel_rfl) { merge := true, glue := true } (fun c _ => LoopsOK_nil c) 60 (by
    rintro ⟨⟩ h
    exact (law_taken.r ).trans (law_taken.p (fun q => (.bool (q) : Value))  h))

def law_holds.c0 {γ : Type} (k : Bool → γ) (a b c : Int) (t1 : Bool) : γ := bif a == 8
  then k (decide (b < c))
  else bif a == 9
   then k (decide (b ≤ c))
   else bif a == 10
    then k (decide (b > c))
    else bif a == 11
     then k (decide (b ≥ c))
     else bif a == 12
      then k (b == c)
      else k (t1)
def law_holds.c {γ : Type} (k : Bool → γ) (a b c : Int) : γ := let t1 := bif a == 13 then b != c else false; law_holds.c0 k a b c t1
def law_holds (a b c : Int) : Bool := law_holds.c id a b c
def law_holds.F : FV := mkF (cP (cI .i64) (cP (cI .i64) (cP (cI .i64) cU))) (fun _ => true) (fun | (a, (b, (c, ()))) => .bool (law_holds a b c))
def L_law_holds : TL := (52, law_holds.F) :: L_law_taken
theorem law_holds.p0 {γ : Type} (k : Bool → γ) (a b c t1) : law_holds.c0 k a b c t1 = k (law_holds.c0 id a b c t1) := by
  unfold law_holds.c0; (repeat' (first | (apply pc k) | (exact rfl)))
theorem law_holds.p {γ : Type} (k : Bool → γ) (a b c : Int) : law_holds.c k a b c = k (law_holds a b c) := by
  unfold law_holds law_holds.c; exact law_holds.p0 k a b c _
theorem law_holds.r (a b c : Int) : runF P G (tab L_law_taken) { merge := true, glue := true } 60 Tryz.f52 [.int .i64 a, .int .i64 b, .int .i64 c] = law_holds.c (fun q => some (.bool (q) : Value)) a b c := by kernel_rfl
theorem law_holds.t : TabOK P G (tab L_law_holds) :=
  TabOK_mkL C law_taken.t Tryz.func52 (by kernel_rfl) { merge := true, glue := true } (fun c _ => LoopsOK_nil c) 60 (by
    rintro ⟨a, ⟨b, ⟨c, ⟨⟩⟩⟩⟩ h
    exact (law_holds.r a b c).trans (law_holds.p (fun q => some (.bool (q) : Value)) a b c))

def law_InvCompares.c0 {γ : Type} (n : γ) (k : Bool → γ) (a : Int) (b0 : Bool) (b1 b2 b3 b4 : Int) (c0 : Bool) (c1 c2 c3 c4 : Int) (t1 t2 : Bool) (t3 t4 : Bool × Int × Int × Int × Int × Bool × Int × Int × Int × Int × Int) (t5 t6 : Bool) (t7 t8 : Int × Int) (t9 t10 t11 : Bool) : γ := bif t1
  then bif t2
   then bif (law_taken.ok || !(t10 && true)) && true
    then k (t11)
    else n
   else n
  else n
def law_InvCompares.c {γ : Type} (n : γ) (k : Bool → γ) (a : Int) (b0 : Bool) (b1 b2 b3 b4 : Int) (c0 : Bool) (c1 c2 c3 c4 : Int) : γ := let t1 := inv_Compare.ok a b0 b1 b2 b3 b4 c0 c1 c2 c3 c4; let t2 := r14_Compare.ok a b0 b1 b2 b3 b4 c0 c1 c2 c3 c4; let t3 := inv_Compare a b0 b1 b2 b3 b4 c0 c1 c2 c3 c4; let t4 := r14_Compare a b0 b1 b2 b3 b4 c0 c1 c2 c3 c4; let t5 := bif t3.1 == t4.1 && (t3.2.1 == t4.2.1 && (t3.2.2.1 == t4.2.2.1 && true) && (t3.2.2.2.1 == t4.2.2.2.1 && (t3.2.2.2.2.1 == t4.2.2.2.2.1 && true) && true)) then t3.2.2.2.2.2.1 == t4.2.2.2.2.2.1 && (t3.2.2.2.2.2.2.1 == t4.2.2.2.2.2.2.1 && (t3.2.2.2.2.2.2.2.1 == t4.2.2.2.2.2.2.2.1 && true) && (t3.2.2.2.2.2.2.2.2.1 == t4.2.2.2.2.2.2.2.2.1 && (t3.2.2.2.2.2.2.2.2.2.1 == t4.2.2.2.2.2.2.2.2.2.1 && true) && true)) else false; let t6 := bif t5 then t3.2.2.2.2.2.2.2.2.2.2 == t4.2.2.2.2.2.2.2.2.2.2 else false; let t7 := inv_Negate a; let t8 := r14_Negate a; let t9 := bif t6 then t7.1 == t8.1 else false; let t10 := bif t9 then t7.2 == t8.2 else false; let t11 := bif t10 then law_taken else false; law_InvCompares.c0 n k a b0 b1 b2 b3 b4 c0 c1 c2 c3 c4 t1 t2 t3 t4 t5 t6 t7 t8 t9 t10 t11
theorem law_InvCompares.r (a : Int) (b0 : Bool) (b1 b2 b3 b4 : Int) (c0 : Bool) (c1 c2 c3 c4 : Int) : runF P G (tab L_law_holds) { merge := true, glue := true } 60 Tryz.f9 [.int .i64 a, .agg #[.bool b0, .int .i64 b1, .int .i64 b2, .int .u64 b3, .int .u64 b4], .agg #[.bool c0, .int .i64 c1, .int .i64 c2, .int .u64 c3, .int .u64 c4]] = law_InvCompares.c none (fun q => some (.bool (q) : Value)) a b0 b1 b2 b3 b4 c0 c1 c2 c3 c4 := by kernel_rfl

def law_InvHolds.c0 {γ : Type} (n : γ) (k : Bool → γ) (o : Int) (p0 : Bool) (p1 p2 p3 p4 : Int) (p5 : Bool) (p6 p7 p8 p9 : Int) (p10 : Bool) (p11 p12 p13 p14 p15 p16 : Int) (t1 : Bool) (t2 : Int × Int) (t3 : Bool × Int × Int × Int × Int × Bool × Int × Int × Int × Int × Int) (t4 t5 t6 t7 t8 : Bool) (t9 : Bool × Int × Int × Int × Int × Bool × Int × Int × Int × Int × Int) (t10 t11 t12 t13 t14 t15 t16 t17 t18 t19 t20 t21 t22 t23 t24 t25 t26 t27 t28 t29 t30 t31 t32 t33 t34 t35 t36 t37 t38 : Bool) : γ := bif t1
  then bif t4
   then bif (law_taken.ok || !(t5 && true)) && true
    then k (t6)
    else n
   else bif t7
    then bif (t8 || !(!t9.2.2.2.2.2.2.2.2.2.2 != 0 && true)) && ((t10 || !(!t12 && true)) && ((t13 || !(!t15 && true)) && ((t16 || !(!t18 && true)) && true)))
     then bif t20
      then k (false)
      else bif (t21 || !true) && ((t22 || !(!!t23 && true)) && true)
       then bif t25
        then bif law_taken.ok
         then k (law_taken)
         else n
        else bif t26
         then bif (t27 || !true) && ((t28 || !(t29 && true)) && ((law_taken.ok || !(t31 && true)) && true))
          then k (t32)
          else n
         else bif (t33 || !true) && ((t34 || !(t35 && true)) && ((law_taken.ok || !(t37 && true)) && true))
          then k (t38)
          else n
       else n
     else n
    else n
  else n
def law_InvHolds.c {γ : Type} (n : γ) (k : Bool → γ) (o : Int) (p0 : Bool) (p1 p2 p3 p4 : Int) (p5 : Bool) (p6 p7 p8 p9 : Int) (p10 : Bool) (p11 p12 p13 p14 p15 p16 : Int) : γ := let t1 := inv_Compare.ok o p0 p1 p2 p3 p4 p5 p6 p7 p8 p9; let t2 := inv_Negate o; let t3 := inv_Compare o p0 p1 p2 p3 p4 p5 p6 p7 p8 p9; let t4 := bif t2.2 != 0 then true else t3.2.2.2.2.2.2.2.2.2.2 != 0; let t5 := bif t2.2 == t3.2.2.2.2.2.2.2.2.2.2 then t2.1 == 0 else false; let t6 := bif t5 then law_taken else false; let t7 := inv_Compare.ok t2.1 p0 p1 p2 p3 p4 p5 p6 p7 p8 p9; let t8 := nref_Leq.ok t3.1 t3.2.1 t3.2.2.1 t3.2.2.2.1 t3.2.2.2.2.1 p0 p1 p2 p3 p4; let t9 := inv_Compare t2.1 p0 p1 p2 p3 p4 p5 p6 p7 p8 p9; let t10 := nref_Leq.ok t3.2.2.2.2.2.1 t3.2.2.2.2.2.2.1 t3.2.2.2.2.2.2.2.1 t3.2.2.2.2.2.2.2.2.1 t3.2.2.2.2.2.2.2.2.2.1 p5 p6 p7 p8 p9; let t11 := nref_Leq t3.1 t3.2.1 t3.2.2.1 t3.2.2.2.1 t3.2.2.2.2.1 p0 p1 p2 p3 p4; let t12 := bif t9.2.2.2.2.2.2.2.2.2.2 != 0 then true else !t11; let t13 := nref_Leq.ok t9.1 t9.2.1 t9.2.2.1 t9.2.2.2.1 t9.2.2.2.2.1 p0 p1 p2 p3 p4; let t14 := nref_Leq t3.2.2.2.2.2.1 t3.2.2.2.2.2.2.1 t3.2.2.2.2.2.2.2.1 t3.2.2.2.2.2.2.2.2.1 t3.2.2.2.2.2.2.2.2.2.1 p5 p6 p7 p8 p9; let t15 := bif t12 then true else !t14; let t16 := nref_Leq.ok t9.2.2.2.2.2.1 t9.2.2.2.2.2.2.1 t9.2.2.2.2.2.2.2.1 t9.2.2.2.2.2.2.2.2.1 t9.2.2.2.2.2.2.2.2.2.1 p5 p6 p7 p8 p9; let t17 := nref_Leq t9.1 t9.2.1 t9.2.2.1 t9.2.2.2.1 t9.2.2.2.2.1 p0 p1 p2 p3 p4; let t18 := bif t15 then true else !t17; let t19 := nref_Leq t9.2.2.2.2.2.1 t9.2.2.2.2.2.2.1 t9.2.2.2.2.2.2.2.1 t9.2.2.2.2.2.2.2.2.1 t9.2.2.2.2.2.2.2.2.2.1 p5 p6 p7 p8 p9; let t20 := bif t18 then true else !t19; let t21 := nref_Has.ok p0 p1 p2 p3 p4 p15; let t22 := nref_Has.ok p5 p6 p7 p8 p9 p16; let t23 := nref_Has p0 p1 p2 p3 p4 p15; let t24 := nref_Has p5 p6 p7 p8 p9 p16; let t25 := bif !t23 then true else !t24; let t26 := law_holds o p15 p16; let t27 := nref_Has.ok t3.1 t3.2.1 t3.2.2.1 t3.2.2.2.1 t3.2.2.2.2.1 p15; let t28 := nref_Has.ok t3.2.2.2.2.2.1 t3.2.2.2.2.2.2.1 t3.2.2.2.2.2.2.2.1 t3.2.2.2.2.2.2.2.2.1 t3.2.2.2.2.2.2.2.2.2.1 p16; let t29 := nref_Has t3.1 t3.2.1 t3.2.2.1 t3.2.2.2.1 t3.2.2.2.2.1 p15; let t30 := nref_Has t3.2.2.2.2.2.1 t3.2.2.2.2.2.2.1 t3.2.2.2.2.2.2.2.1 t3.2.2.2.2.2.2.2.2.1 t3.2.2.2.2.2.2.2.2.2.1 p16; let t31 := bif t29 then t30 else false; let t32 := bif t31 then law_taken else false; let t33 := nref_Has.ok t9.1 t9.2.1 t9.2.2.1 t9.2.2.2.1 t9.2.2.2.2.1 p15; let t34 := nref_Has.ok t9.2.2.2.2.2.1 t9.2.2.2.2.2.2.1 t9.2.2.2.2.2.2.2.1 t9.2.2.2.2.2.2.2.2.1 t9.2.2.2.2.2.2.2.2.2.1 p16; let t35 := nref_Has t9.1 t9.2.1 t9.2.2.1 t9.2.2.2.1 t9.2.2.2.2.1 p15; let t36 := nref_Has t9.2.2.2.2.2.1 t9.2.2.2.2.2.2.1 t9.2.2.2.2.2.2.2.1 t9.2.2.2.2.2.2.2.2.1 t9.2.2.2.2.2.2.2.2.2.1 p16; let t37 := bif t35 then t36 else false; let t38 := bif t37 then law_taken else false; law_InvHolds.c0 n k o p0 p1 p2 p3 p4 p5 p6 p7 p8 p9 p10 p11 p12 p13 p14 p15 p16 t1 t2 t3 t4 t5 t6 t7 t8 t9 t10 t11 t12 t13 t14 t15 t16 t17 t18 t19 t20 t21 t22 t23 t24 t25 t26 t27 t28 t29 t30 t31 t32 t33 t34 t35 t36 t37 t38
theorem law_InvHolds.r (o : Int) (p0 : Bool) (p1 p2 p3 p4 : Int) (p5 : Bool) (p6 p7 p8 p9 : Int) (p10 : Bool) (p11 p12 p13 p14 p15 p16 : Int) : runF P G (tab L_law_holds) { merge := true, glue := true } 60 Tryz.f11 [.int .i64 o, .agg #[.bool p0, .int .i64 p1, .int .i64 p2, .int .u64 p3, .int .u64 p4, .bool p5, .int .i64 p6, .int .i64 p7, .int .u64 p8, .int .u64 p9, .bool p10, .int .i64 p11, .int .i64 p12, .int .u64 p13, .int .u64 p14, .int .i64 p15, .int .i64 p16]] = law_InvHolds.c none (fun q => some (.bool (q) : Value)) o p0 p1 p2 p3 p4 p5 p6 p7 p8 p9 p10 p11 p12 p13 p14 p15 p16 := by kernel_rfl

end
end Go.Proofs.YtonpbbhlmapbdaaGreatDoor.V
