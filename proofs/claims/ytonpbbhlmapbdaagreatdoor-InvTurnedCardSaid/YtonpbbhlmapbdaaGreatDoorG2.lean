/- What the functions of this seat compute, told by evaluation of their code. Conditions: none. -/
import Derived.Test.YtonpbbhlmapbdaaGreatDoorG1
set_option linter.unusedVariables false
set_option linter.unusedSimpArgs false
namespace Go.Proofs.YtonpbbhlmapbdaaGreatDoor.V
open Go Go.Wk
noncomputable section

def law_taken.c0 {γ : Type} (n : γ) (k : Bool → γ)  (t1 : Bool) (t2 : Bool) (t3 : Bool × Int × Int × Int × Int) (t4 : Bool × Int × Int × Int × Int) (t5 : Bool × Int × Int × Int × Int) (t6 : Bool × Int × Int × Int × Int) (t7 : Bool) (t8 : Bool × Int × Int × Int × Int) (t9 : Bool × Int × Int × Int × Int) (t10 : Bool) (t11 : Bool) (t12 : Bool) (t13 : Bool) (t14 : Bool × Int × Int × Int × Int) (t15 : Bool × Int × Int × Int × Int) (t16 : Bool) (t17 : Bool × Int × Int × Int × Int × Bool × Int × Int × Int × Int × Int) (t18 : Bool) (t19 : Int × Int) (t20 : Bool) (t21 : Bool) (t22 : Bool) (t23 : Bool × Int × Int × Int × Int) (t24 : Bool) (t25 : Bool) (t26 : Bool) (t27 : Bool × Int × Int × Int × Int) (t28 : Bool) (t29 : Bool × Int × Int × Int × Int) (t30 : Bool) (t31 : Bool) (t32 : Bool × Int × Int × Int × Int × Bool × Int × Int × Int × Int) (t33 : Bool × Int × Int × Int × Int × Bool × Int × Int × Int × Int) (t34 : Bool) (t35 : Bool) (t36 : Bool) : γ := bif t1
  then bif t2
   then bif t11
    then bif t12
     then bif t13
      then bif t16
       then bif t21
        then k (false)
        else bif (t22 || !true) && ((t2 || !(num_Bot.fst == t23.fst && (num_Bot.snd.fst == t23.snd.fst && (num_Bot.snd.snd.fst == t23.snd.snd.fst && true) && (num_Bot.snd.snd.snd.fst == t23.snd.snd.snd.fst && (num_Bot.snd.snd.snd.snd == t23.snd.snd.snd.snd && true) && true)) && true)) && ((t24 || !(t25 && true)) && ((t26 || !(t28 && true)) && true)))
         then k (t30)
         else n
       else n
      else n
     else n
    else bif t31
     then bif t12
      then bif t13
       then bif t16
        then bif t21
         then k (false)
         else bif (t22 || !true) && ((t2 || !(t33.fst == t23.fst && (t33.snd.fst == t23.snd.fst && (t33.snd.snd.fst == t23.snd.snd.fst && true) && (t33.snd.snd.snd.fst == t23.snd.snd.snd.fst && (t33.snd.snd.snd.snd.fst == t23.snd.snd.snd.snd && true) && true)) && true)) && ((t24 || !(t34 && true)) && ((t26 || !(t35 && true)) && true)))
          then k (t36)
          else n
        else n
       else n
      else n
     else n
   else n
  else n
def law_taken.c {γ : Type} (n : γ) (k : Bool → γ)  : γ := let t1 := nref_Range.ok 0 10; let t2 := nref_Range.ok 1 2; let t3 := nref_Range 0 10; let t4 := num_Norm t3.fst t3.snd.fst t3.snd.snd.fst t3.snd.snd.snd.fst t3.snd.snd.snd.snd; let t5 := nref_Const 5; let t6 := num_Norm t5.fst t5.snd.fst t5.snd.snd.fst t5.snd.snd.snd.fst t5.snd.snd.snd.snd; let t7 := bif t4.fst then true else t6.fst; let t8 := nref_Range 1 2; let t9 := num_Norm t8.fst t8.snd.fst t8.snd.snd.fst t8.snd.snd.snd.fst t8.snd.snd.snd.snd; let t10 := bif t9.fst then 3 != 1 else false; let t11 := bif t7 then true else t10; let t12 := nref_Range.ok 0 9; let t13 := nref_Range.ok 0 5; let t14 := nref_Range 0 9; let t15 := nref_Range 0 5; let t16 := inv_Compare.ok 8 t14.fst t14.snd.fst t14.snd.snd.fst t14.snd.snd.snd.fst t14.snd.snd.snd.snd t15.fst t15.snd.fst t15.snd.snd.fst t15.snd.snd.snd.fst t15.snd.snd.snd.snd; let t17 := inv_Compare 8 t14.fst t14.snd.fst t14.snd.snd.fst t14.snd.snd.snd.fst t14.snd.snd.snd.snd t15.fst t15.snd.fst t15.snd.snd.fst t15.snd.snd.snd.fst t15.snd.snd.snd.snd; let t18 := bif 0 != 0 then true else t17.snd.snd.snd.snd.snd.snd.snd.snd.snd.snd != 0; let t19 := inv_Negate 8; let t20 := bif t18 then true else t19.snd != 0; let t21 := bif t20 then true else t19.fst != 11; let t22 := nref_Range.ok 3 4; let t23 := nref_Range 3 4; let t24 := nref_Range.ok 0 4; let t25 := bif num_Bot.fst == t23.fst && (num_Bot.snd.fst == t23.snd.fst && (num_Bot.snd.snd.fst == t23.snd.snd.fst && true) && (num_Bot.snd.snd.snd.fst == t23.snd.snd.snd.fst && (num_Bot.snd.snd.snd.snd == t23.snd.snd.snd.snd && true) && true)) then num_Bot.fst == t8.fst && (num_Bot.snd.fst == t8.snd.fst && (num_Bot.snd.snd.fst == t8.snd.snd.fst && true) && (num_Bot.snd.snd.snd.fst == t8.snd.snd.snd.fst && (num_Bot.snd.snd.snd.snd == t8.snd.snd.snd.snd && true) && true)) else false; let t26 := nref_Range.ok 1 5; let t27 := nref_Range 0 4; let t28 := bif t25 then t17.fst == t27.fst && (t17.snd.fst == t27.snd.fst && (t17.snd.snd.fst == t27.snd.snd.fst && true) && (t17.snd.snd.snd.fst == t27.snd.snd.snd.fst && (t17.snd.snd.snd.snd.fst == t27.snd.snd.snd.snd && true) && true)) else false; let t29 := nref_Range 1 5; let t30 := bif t28 then t17.snd.snd.snd.snd.snd.fst == t29.fst && (t17.snd.snd.snd.snd.snd.snd.fst == t29.snd.fst && (t17.snd.snd.snd.snd.snd.snd.snd.fst == t29.snd.snd.fst && true) && (t17.snd.snd.snd.snd.snd.snd.snd.snd.fst == t29.snd.snd.snd.fst && (t17.snd.snd.snd.snd.snd.snd.snd.snd.snd.fst == t29.snd.snd.snd.snd && true) && true)) else false; let t31 := inv_added.ok t4.fst t4.snd.fst t4.snd.snd.fst t4.snd.snd.snd.fst t4.snd.snd.snd.snd t9.fst t9.snd.fst t9.snd.snd.fst t9.snd.snd.snd.fst t9.snd.snd.snd.snd t6.fst t6.snd.fst t6.snd.snd.fst t6.snd.snd.snd.fst t6.snd.snd.snd.snd; let t32 := inv_added t4.fst t4.snd.fst t4.snd.snd.fst t4.snd.snd.snd.fst t4.snd.snd.snd.snd t9.fst t9.snd.fst t9.snd.snd.fst t9.snd.snd.snd.fst t9.snd.snd.snd.snd t6.fst t6.snd.fst t6.snd.snd.fst t6.snd.snd.snd.fst t6.snd.snd.snd.snd; let t33 := inv_told t32.fst t32.snd.fst t32.snd.snd.fst t32.snd.snd.snd.fst t32.snd.snd.snd.snd.fst t32.snd.snd.snd.snd.snd.fst t32.snd.snd.snd.snd.snd.snd.fst t32.snd.snd.snd.snd.snd.snd.snd.fst t32.snd.snd.snd.snd.snd.snd.snd.snd.fst t32.snd.snd.snd.snd.snd.snd.snd.snd.snd; let t34 := bif t33.fst == t23.fst && (t33.snd.fst == t23.snd.fst && (t33.snd.snd.fst == t23.snd.snd.fst && true) && (t33.snd.snd.snd.fst == t23.snd.snd.snd.fst && (t33.snd.snd.snd.snd.fst == t23.snd.snd.snd.snd && true) && true)) then t33.snd.snd.snd.snd.snd.fst == t8.fst && (t33.snd.snd.snd.snd.snd.snd.fst == t8.snd.fst && (t33.snd.snd.snd.snd.snd.snd.snd.fst == t8.snd.snd.fst && true) && (t33.snd.snd.snd.snd.snd.snd.snd.snd.fst == t8.snd.snd.snd.fst && (t33.snd.snd.snd.snd.snd.snd.snd.snd.snd == t8.snd.snd.snd.snd && true) && true)) else false; let t35 := bif t34 then t17.fst == t27.fst && (t17.snd.fst == t27.snd.fst && (t17.snd.snd.fst == t27.snd.snd.fst && true) && (t17.snd.snd.snd.fst == t27.snd.snd.snd.fst && (t17.snd.snd.snd.snd.fst == t27.snd.snd.snd.snd && true) && true)) else false; let t36 := bif t35 then t17.snd.snd.snd.snd.snd.fst == t29.fst && (t17.snd.snd.snd.snd.snd.snd.fst == t29.snd.fst && (t17.snd.snd.snd.snd.snd.snd.snd.fst == t29.snd.snd.fst && true) && (t17.snd.snd.snd.snd.snd.snd.snd.snd.fst == t29.snd.snd.snd.fst && (t17.snd.snd.snd.snd.snd.snd.snd.snd.snd.fst == t29.snd.snd.snd.snd && true) && true)) else false; law_taken.c0 n k  t1 t2 t3 t4 t5 t6 t7 t8 t9 t10 t11 t12 t13 t14 t15 t16 t17 t18 t19 t20 t21 t22 t23 t24 t25 t26 t27 t28 t29 t30 t31 t32 t33 t34 t35 t36
def law_taken.ok  : Bool := law_taken.c false (fun _ => true) 
def law_taken  : Bool := law_taken.c (false) id 
def law_taken.F : FV := mkF cU (fun | () => law_taken.ok ) (fun | () => .bool (law_taken))
def L_law_taken : TL := (46, law_taken.F) :: L_inv_Negate
theorem law_taken.p0 {γ : Type} (k : Bool → γ)  (t1 : Bool) (t2 : Bool) (t3 : Bool × Int × Int × Int × Int) (t4 : Bool × Int × Int × Int × Int) (t5 : Bool × Int × Int × Int × Int) (t6 : Bool × Int × Int × Int × Int) (t7 : Bool) (t8 : Bool × Int × Int × Int × Int) (t9 : Bool × Int × Int × Int × Int) (t10 : Bool) (t11 : Bool) (t12 : Bool) (t13 : Bool) (t14 : Bool × Int × Int × Int × Int) (t15 : Bool × Int × Int × Int × Int) (t16 : Bool) (t17 : Bool × Int × Int × Int × Int × Bool × Int × Int × Int × Int × Int) (t18 : Bool) (t19 : Int × Int) (t20 : Bool) (t21 : Bool) (t22 : Bool) (t23 : Bool × Int × Int × Int × Int) (t24 : Bool) (t25 : Bool) (t26 : Bool) (t27 : Bool × Int × Int × Int × Int) (t28 : Bool) (t29 : Bool × Int × Int × Int × Int) (t30 : Bool) (t31 : Bool) (t32 : Bool × Int × Int × Int × Int × Bool × Int × Int × Int × Int) (t33 : Bool × Int × Int × Int × Int × Bool × Int × Int × Int × Int) (t34 : Bool) (t35 : Bool) (t36 : Bool) : law_taken.c0 false (fun _ => true)  t1 t2 t3 t4 t5 t6 t7 t8 t9 t10 t11 t12 t13 t14 t15 t16 t17 t18 t19 t20 t21 t22 t23 t24 t25 t26 t27 t28 t29 t30 t31 t32 t33 t34 t35 t36 = true → law_taken.c0 none (fun q => some (k q))  t1 t2 t3 t4 t5 t6 t7 t8 t9 t10 t11 t12 t13 t14 t15 t16 t17 t18 t19 t20 t21 t22 t23 t24 t25 t26 t27 t28 t29 t30 t31 t32 t33 t34 t35 t36 = some (k (law_taken.c0 (false) id  t1 t2 t3 t4 t5 t6 t7 t8 t9 t10 t11 t12 t13 t14 t15 t16 t17 t18 t19 t20 t21 t22 t23 t24 t25 t26 t27 t28 t29 t30 t31 t32 t33 t34 t35 t36)) := by
  unfold law_taken.c0; (repeat' (first | (apply pn k) | (exact pn_none _ _) | (exact pn_leaf k _)))
theorem law_taken.p {γ : Type} (k : Bool → γ) (h : law_taken.ok = true) : law_taken.c none (fun q => some (k q)) = some (k (law_taken)) := by
  revert h; unfold law_taken.ok law_taken law_taken.c; exact fun h => law_taken.p0 k _ _ _ _ _ _ _ _ _ _ _ _ _ _ _ _ _ _ _ _ _ _ _ _ _ _ _ _ _ _ _ _ _ _ _ _ h
theorem law_taken.r  : runF P G (tab L_inv_Negate) { merge := true, glue := true } 60 Tryz.f46 [] = law_taken.c none (fun q => some (.bool (q) : Value))  := by kernel_rfl
theorem law_taken.t : TabOK P G (tab L_law_taken) :=
  TabOK_mkL C inv_Negate.t Tryz.func46 (by kernel_rfl) { merge := true, glue := true } (fun c _ => LoopsOK_nil c) 60 (by
    rintro ⟨⟩ h
    exact (law_taken.r ).trans (law_taken.p (fun q => (.bool (q) : Value))  h))

def law_holds.c0 {γ : Type} (k : Bool → γ) (a : Int) (b : Int) (c : Int) (t1 : Bool) : γ := bif a == 8
  then k (decide (b < c))
  else bif a == 9
   then k (decide (b ≤ c))
   else bif a == 10
    then k (decide (b > c))
    else bif a == 11
     then k (decide (b ≥ c))
     else bif a == 12
      then k (b == c)
      else k (t1)
def law_holds.c {γ : Type} (k : Bool → γ) (a : Int) (b : Int) (c : Int) : γ := let t1 := bif a == 13 then b != c else false; law_holds.c0 k a b c t1
def law_holds (a : Int) (b : Int) (c : Int) : Bool := law_holds.c id a b c
def law_holds.F : FV := mkF (cP (cI .i64) (cP (cI .i64) (cP (cI .i64) cU))) (fun _ => true) (fun | (a, (b, (c, ()))) => .bool (law_holds a b c))
def L_law_holds : TL := (52, law_holds.F) :: L_law_taken
theorem law_holds.p0 {γ : Type} (k : Bool → γ) (a : Int) (b : Int) (c : Int) (t1 : Bool) : law_holds.c0 k a b c t1 = k (law_holds.c0 id a b c t1) := by
  unfold law_holds.c0; (repeat' (first | (apply pc k) | (exact rfl)))
theorem law_holds.p {γ : Type} (k : Bool → γ) (a : Int) (b : Int) (c : Int) : law_holds.c k a b c = k (law_holds a b c) :=
  let t1 := bif a == 13 then b != c else false; law_holds.p0 k a b c t1
theorem law_holds.r (a : Int) (b : Int) (c : Int) : runF P G (tab L_law_taken) { merge := true, glue := true } 60 Tryz.f52 [.int .i64 a, .int .i64 b, .int .i64 c] = law_holds.c (fun q => some (.bool (q) : Value)) a b c := by kernel_rfl
theorem law_holds.t : TabOK P G (tab L_law_holds) :=
  TabOK_mkL C law_taken.t Tryz.func52 (by kernel_rfl) { merge := true, glue := true } (fun c _ => LoopsOK_nil c) 60 (by
    rintro ⟨a, ⟨b, ⟨c, ⟨⟩⟩⟩⟩ h
    exact (law_holds.r a b c).trans (law_holds.p (fun q => some (.bool (q) : Value)) a b c))

end
end Go.Proofs.YtonpbbhlmapbdaaGreatDoor.V
