/- What the functions of this seat compute, told by evaluation of their code. Conditions: none. -/
import Derived.Test.YtonpbbhlmapbdaaGreatDoorE7
set_option linter.unusedVariables false
set_option linter.unusedSimpArgs false
namespace Go.Proofs.YtonpbbhlmapbdaaGreatDoor.V
open Go Go.Wk
noncomputable section

def law_works.c0 {γ : Type} (n : γ) (k : Bool → γ)  (t1 : Bool × Int × Int × Int × Int) (t2 : Bool × Int × Int × Int × Int) (t3 : Bool) (t4 : Bool × Int × Int × Int × Int) (t5 : Bool) (t6 : Bool × Int × Int × Int × Int × Int) (t7 : Bool) (t8 : Bool) (t9 : Bool) (t10 : Bool × Int × Int × Int × Int) (t11 : Bool) (t12 : Bool) (t13 : Bool) (t14 : Bool) (t15 : Bool × Int × Int × Int × Int) (t16 : Bool) (t17 : Bool × Int × Int × Int × Int) (t18 : Bool) (t19 : Bool × Int × Int × Int × Int) (t20 : Bool × Int × Int × Int × Int) (t21 : Bool) : γ := bif t3
  then bif (t5 || !(t9 && true)) && ((t11 || !(t13 && true)) && ((t14 || !(t16 && true)) && true))
   then k (t21)
   else n
  else n
def law_works.c {γ : Type} (n : γ) (k : Bool → γ)  : γ := let t1 := num_Make 1 10 4 3; let t2 := num_Const 1; let t3 := num_Apply.ok 3 t1.fst t1.snd.fst t1.snd.snd.fst t1.snd.snd.snd.fst t1.snd.snd.snd.snd t2.fst t2.snd.fst t2.snd.snd.fst t2.snd.snd.snd.fst t2.snd.snd.snd.snd; let t4 := num_Const 3; let t5 := num_Leq.ok t4.fst t4.snd.fst t4.snd.snd.fst t4.snd.snd.snd.fst t4.snd.snd.snd.snd t1.fst t1.snd.fst t1.snd.snd.fst t1.snd.snd.snd.fst t1.snd.snd.snd.snd; let t6 := num_Apply 3 t1.fst t1.snd.fst t1.snd.snd.fst t1.snd.snd.snd.fst t1.snd.snd.snd.snd t2.fst t2.snd.fst t2.snd.snd.fst t2.snd.snd.snd.fst t2.snd.snd.snd.snd; let t7 := bif t6.snd.snd.snd.snd.snd == 0 then t6.fst == false && (t6.snd.fst == 4 && (t6.snd.snd.fst == 8 && true) && (t6.snd.snd.snd.fst == 4 && (t6.snd.snd.snd.snd.fst == 0 && true) && true)) else false; let t8 := num_Has t1.fst t1.snd.fst t1.snd.snd.fst t1.snd.snd.snd.fst t1.snd.snd.snd.snd 7; let t9 := bif t7 then t8 else false; let t10 := num_Const 7; let t11 := num_Join.ok t4.fst t4.snd.fst t4.snd.snd.fst t4.snd.snd.snd.fst t4.snd.snd.snd.snd t10.fst t10.snd.fst t10.snd.snd.fst t10.snd.snd.snd.fst t10.snd.snd.snd.snd; let t12 := num_Leq t4.fst t4.snd.fst t4.snd.snd.fst t4.snd.snd.snd.fst t4.snd.snd.snd.snd t1.fst t1.snd.fst t1.snd.snd.fst t1.snd.snd.snd.fst t1.snd.snd.snd.snd; let t13 := bif t9 then t12 else false; let t14 := num_Meet.ok t1.fst t1.snd.fst t1.snd.snd.fst t1.snd.snd.snd.fst t1.snd.snd.snd.snd num_Bot.fst num_Bot.snd.fst num_Bot.snd.snd.fst num_Bot.snd.snd.snd.fst num_Bot.snd.snd.snd.snd; let t15 := num_Join t4.fst t4.snd.fst t4.snd.snd.fst t4.snd.snd.snd.fst t4.snd.snd.snd.snd t10.fst t10.snd.fst t10.snd.snd.fst t10.snd.snd.snd.fst t10.snd.snd.snd.snd; let t16 := bif t13 then t15.fst == t1.fst && (t15.snd.fst == t1.snd.fst && (t15.snd.snd.fst == t1.snd.snd.fst && true) && (t15.snd.snd.snd.fst == t1.snd.snd.snd.fst && (t15.snd.snd.snd.snd == t1.snd.snd.snd.snd && true) && true)) else false; let t17 := num_Meet t1.fst t1.snd.fst t1.snd.snd.fst t1.snd.snd.snd.fst t1.snd.snd.snd.snd num_Bot.fst num_Bot.snd.fst num_Bot.snd.snd.fst num_Bot.snd.snd.snd.fst num_Bot.snd.snd.snd.snd; let t18 := bif t16 then t17.fst else false; let t19 := num_Const 0; let t20 := num_NonZero t19.fst t19.snd.fst t19.snd.snd.fst t19.snd.snd.snd.fst t19.snd.snd.snd.snd; let t21 := bif t18 then t20.fst else false; law_works.c0 n k  t1 t2 t3 t4 t5 t6 t7 t8 t9 t10 t11 t12 t13 t14 t15 t16 t17 t18 t19 t20 t21
def law_works.ok  : Bool := law_works.c false (fun _ => true) 
def law_works  : Bool := law_works.c (false) id 
def law_works.F : FV := mkF cU (fun | () => law_works.ok ) (fun | () => .bool (law_works))
def L_law_works : TL := (13, law_works.F) :: L_num_Apply
theorem law_works.p0 {γ : Type} (k : Bool → γ)  (t1 : Bool × Int × Int × Int × Int) (t2 : Bool × Int × Int × Int × Int) (t3 : Bool) (t4 : Bool × Int × Int × Int × Int) (t5 : Bool) (t6 : Bool × Int × Int × Int × Int × Int) (t7 : Bool) (t8 : Bool) (t9 : Bool) (t10 : Bool × Int × Int × Int × Int) (t11 : Bool) (t12 : Bool) (t13 : Bool) (t14 : Bool) (t15 : Bool × Int × Int × Int × Int) (t16 : Bool) (t17 : Bool × Int × Int × Int × Int) (t18 : Bool) (t19 : Bool × Int × Int × Int × Int) (t20 : Bool × Int × Int × Int × Int) (t21 : Bool) : law_works.c0 false (fun _ => true)  t1 t2 t3 t4 t5 t6 t7 t8 t9 t10 t11 t12 t13 t14 t15 t16 t17 t18 t19 t20 t21 = true → law_works.c0 none (fun q => some (k q))  t1 t2 t3 t4 t5 t6 t7 t8 t9 t10 t11 t12 t13 t14 t15 t16 t17 t18 t19 t20 t21 = some (k (law_works.c0 (false) id  t1 t2 t3 t4 t5 t6 t7 t8 t9 t10 t11 t12 t13 t14 t15 t16 t17 t18 t19 t20 t21)) := by
  unfold law_works.c0; (repeat' (first | (apply pn k) | (exact pn_none _ _) | (exact pn_leaf k _)))
theorem law_works.p {γ : Type} (k : Bool → γ) (h : law_works.ok = true) : law_works.c none (fun q => some (k q)) = some (k (law_works)) := by
  revert h; unfold law_works.ok law_works law_works.c; exact fun h => law_works.p0 k _ _ _ _ _ _ _ _ _ _ _ _ _ _ _ _ _ _ _ _ _ h
theorem law_works.r  : runF P G (tab L_num_Apply) { merge := true, glue := true } 60 Tryz.f13 [] = law_works.c none (fun q => some (.bool (q) : Value))  := by kernel_rfl
theorem law_works.t : TabOK P G (tab L_law_works) :=
  TabOK_mkL C num_Apply.t Tryz.func13 (by kernel_rfl) { merge := true, glue := true } (fun c _ => LoopsOK_nil c) 60 (by
    rintro ⟨⟩ h
    exact (law_works.r ).trans (law_works.p (fun q => (.bool (q) : Value))  h))

def law_rest.c0 {γ : Type} (n : γ) (k : Int → γ) (a : Int) (b : Int) (t1 : Int) (t2 : Int) (t3 : Int) (t4 : Int) (t5 : Int) (t6 : Int) : γ := bif decide (a ≥ 0)
  then bif !decide (b = 0)
   then k (t1.tmod b)
   else n
  else bif !decide (b = 0)
   then k (t6)
   else n
def law_rest.c {γ : Type} (n : γ) (k : Int → γ) (a : Int) (b : Int) : γ := let t1 := IntKind.u64.wrap a; let t2 := IntKind.u64.wrap (b - 1); let t3 := IntKind.i64.wrap (a + 1); let t4 := IntKind.i64.wrap (0 - t3); let t5 := IntKind.u64.wrap t4; let t6 := IntKind.u64.wrap (t2 - t5.tmod b); law_rest.c0 n k a b t1 t2 t3 t4 t5 t6
def law_rest.ok (a : Int) (b : Int) : Bool := law_rest.c false (fun _ => true) a b
def law_rest (a : Int) (b : Int) : Int := law_rest.c (0) id a b
def law_rest.F : FV := mkF (cP (cI .i64) (cP (cI .u64) cU)) (fun | (a, (b, ())) => law_rest.ok a b) (fun | (a, (b, ())) => .int .u64 (law_rest a b))
def L_law_rest : TL := (54, law_rest.F) :: L_law_works
theorem law_rest.p0 {γ : Type} (k : Int → γ) (a : Int) (b : Int) (t1 : Int) (t2 : Int) (t3 : Int) (t4 : Int) (t5 : Int) (t6 : Int) : law_rest.c0 false (fun _ => true) a b t1 t2 t3 t4 t5 t6 = true → law_rest.c0 none (fun q => some (k q)) a b t1 t2 t3 t4 t5 t6 = some (k (law_rest.c0 (0) id a b t1 t2 t3 t4 t5 t6)) := by
  unfold law_rest.c0; (repeat' (first | (apply pn k) | (exact pn_none _ _) | (exact pn_leaf k _)))
theorem law_rest.p {γ : Type} (k : Int → γ) (a : Int) (b : Int) (h : law_rest.ok a b = true) : law_rest.c none (fun q => some (k q)) a b = some (k (law_rest a b)) :=
  let t1 := IntKind.u64.wrap a; let t2 := IntKind.u64.wrap (b - 1); let t3 := IntKind.i64.wrap (a + 1); let t4 := IntKind.i64.wrap (0 - t3); let t5 := IntKind.u64.wrap t4; let t6 := IntKind.u64.wrap (t2 - t5.tmod b); law_rest.p0 k a b t1 t2 t3 t4 t5 t6 h
theorem law_rest.r (a : Int) (b : Int) : runF P G (tab L_law_works) { merge := true, glue := true } 60 Tryz.f54 [.int .i64 a, .int .u64 b] = law_rest.c none (fun q => some (.int .u64 (q) : Value)) a b := by kernel_rfl
theorem law_rest.t : TabOK P G (tab L_law_rest) :=
  TabOK_mkL C law_works.t Tryz.func54 (by kernel_rfl) { merge := true, glue := true } (fun c _ => LoopsOK_nil c) 60 (by
    rintro ⟨a, ⟨b, ⟨⟩⟩⟩ h
    exact (law_rest.r a b).trans (law_rest.p (fun q => (.int .u64 (q) : Value)) a b h))

def law_inside.c0 {γ : Type} (n : γ) (k : Bool → γ) (a0 : Bool) (a1 : Int) (a2 : Int) (a3 : Int) (a4 : Int) (b : Int) (t1 : Bool) (t2 : Bool) (t3 : Int) (t4 : Bool) (t5 : Int) : γ := bif t2
  then k (false)
  else bif a3 == 0
   then k (t3 == a4)
   else bif t4
    then bif !decide (a3 = 0)
     then k (t5 == a4.tmod a3)
     else n
    else n
def law_inside.c {γ : Type} (n : γ) (k : Bool → γ) (a0 : Bool) (a1 : Int) (a2 : Int) (a3 : Int) (a4 : Int) (b : Int) : γ := let t1 := bif a0 then true else decide (b < a1); let t2 := bif t1 then true else decide (b > a2); let t3 := IntKind.u64.wrap b; let t4 := law_rest.ok b a3; let t5 := law_rest b a3; law_inside.c0 n k a0 a1 a2 a3 a4 b t1 t2 t3 t4 t5
def law_inside.ok (a0 : Bool) (a1 : Int) (a2 : Int) (a3 : Int) (a4 : Int) (b : Int) : Bool := law_inside.c false (fun _ => true) a0 a1 a2 a3 a4 b
def law_inside (a0 : Bool) (a1 : Int) (a2 : Int) (a3 : Int) (a4 : Int) (b : Int) : Bool := law_inside.c (false) id a0 a1 a2 a3 a4 b
def law_inside.F : FV := mkF (cP (cA (cP cB (cP (cI .i64) (cP (cI .i64) (cP (cI .u64) (cP (cI .u64) cU)))))) (cP (cI .i64) cU)) (fun | ((a0, (a1, (a2, (a3, (a4, ()))))), (b, ())) => law_inside.ok a0 a1 a2 a3 a4 b) (fun | ((a0, (a1, (a2, (a3, (a4, ()))))), (b, ())) => .bool (law_inside a0 a1 a2 a3 a4 b))
def L_law_inside : TL := (19, law_inside.F) :: L_law_rest
theorem law_inside.p0 {γ : Type} (k : Bool → γ) (a0 : Bool) (a1 : Int) (a2 : Int) (a3 : Int) (a4 : Int) (b : Int) (t1 : Bool) (t2 : Bool) (t3 : Int) (t4 : Bool) (t5 : Int) : law_inside.c0 false (fun _ => true) a0 a1 a2 a3 a4 b t1 t2 t3 t4 t5 = true → law_inside.c0 none (fun q => some (k q)) a0 a1 a2 a3 a4 b t1 t2 t3 t4 t5 = some (k (law_inside.c0 (false) id a0 a1 a2 a3 a4 b t1 t2 t3 t4 t5)) := by
  unfold law_inside.c0; (repeat' (first | (apply pn k) | (exact pn_none _ _) | (exact pn_leaf k _)))
theorem law_inside.p {γ : Type} (k : Bool → γ) (a0 : Bool) (a1 : Int) (a2 : Int) (a3 : Int) (a4 : Int) (b : Int) (h : law_inside.ok a0 a1 a2 a3 a4 b = true) : law_inside.c none (fun q => some (k q)) a0 a1 a2 a3 a4 b = some (k (law_inside a0 a1 a2 a3 a4 b)) :=
  let t1 := bif a0 then true else decide (b < a1); let t2 := bif t1 then true else decide (b > a2); let t3 := IntKind.u64.wrap b; let t4 := law_rest.ok b a3; let t5 := law_rest b a3; law_inside.p0 k a0 a1 a2 a3 a4 b t1 t2 t3 t4 t5 h
theorem law_inside.r (a0 : Bool) (a1 : Int) (a2 : Int) (a3 : Int) (a4 : Int) (b : Int) : runF P G (tab L_law_rest) { merge := true, glue := true } 60 Tryz.f19 [.agg #[.bool a0, .int .i64 a1, .int .i64 a2, .int .u64 a3, .int .u64 a4], .int .i64 b] = law_inside.c none (fun q => some (.bool (q) : Value)) a0 a1 a2 a3 a4 b := by kernel_rfl
theorem law_inside.t : TabOK P G (tab L_law_inside) :=
  TabOK_mkL C law_rest.t Tryz.func19 (by kernel_rfl) { merge := true, glue := true } (fun c _ => LoopsOK_nil c) 60 (by
    rintro ⟨⟨a0, ⟨a1, ⟨a2, ⟨a3, ⟨a4, ⟨⟩⟩⟩⟩⟩⟩, ⟨b, ⟨⟩⟩⟩ h
    exact (law_inside.r a0 a1 a2 a3 a4 b).trans (law_inside.p (fun q => (.bool (q) : Value)) a0 a1 a2 a3 a4 b h))

def law_normal.c0 {γ : Type} (n : γ) (k : Bool → γ) (a0 : Bool) (a1 : Int) (a2 : Int) (a3 : Int) (a4 : Int) (t1 : Bool) (t2 : Bool) (t3 : Bool) (t4 : Bool) (t5 : Bool) (t6 : Bool) (t7 : Int) (t8 : Bool) : γ := bif a0
  then k (a0 == true && (a1 == 0 && (a2 == 0 && true) && (a3 == 0 && (a4 == 0 && true) && true)))
  else bif (t1 || !(!decide (a1 > a2) && true)) && ((t2 || !(!t4 && true)) && true)
   then bif t6
    then k (false)
    else bif a1 == a2
     then k (a3 == 0 && (a4 == t7 && true))
     else k (t8)
   else n
def law_normal.c {γ : Type} (n : γ) (k : Bool → γ) (a0 : Bool) (a1 : Int) (a2 : Int) (a3 : Int) (a4 : Int) : γ := let t1 := law_inside.ok a0 a1 a2 a3 a4 a1; let t2 := law_inside.ok a0 a1 a2 a3 a4 a2; let t3 := law_inside a0 a1 a2 a3 a4 a1; let t4 := bif decide (a1 > a2) then true else !t3; let t5 := law_inside a0 a1 a2 a3 a4 a2; let t6 := bif t4 then true else !t5; let t7 := IntKind.u64.wrap a1; let t8 := bif decide (a3 > 0) then decide (a4 < a3) else false; law_normal.c0 n k a0 a1 a2 a3 a4 t1 t2 t3 t4 t5 t6 t7 t8
def law_normal.ok (a0 : Bool) (a1 : Int) (a2 : Int) (a3 : Int) (a4 : Int) : Bool := law_normal.c false (fun _ => true) a0 a1 a2 a3 a4
def law_normal (a0 : Bool) (a1 : Int) (a2 : Int) (a3 : Int) (a4 : Int) : Bool := law_normal.c (false) id a0 a1 a2 a3 a4
def law_normal.F : FV := mkF (cP (cA (cP cB (cP (cI .i64) (cP (cI .i64) (cP (cI .u64) (cP (cI .u64) cU)))))) cU) (fun | ((a0, (a1, (a2, (a3, (a4, ()))))), ()) => law_normal.ok a0 a1 a2 a3 a4) (fun | ((a0, (a1, (a2, (a3, (a4, ()))))), ()) => .bool (law_normal a0 a1 a2 a3 a4))
def L_law_normal : TL := (15, law_normal.F) :: L_law_inside
theorem law_normal.p0 {γ : Type} (k : Bool → γ) (a0 : Bool) (a1 : Int) (a2 : Int) (a3 : Int) (a4 : Int) (t1 : Bool) (t2 : Bool) (t3 : Bool) (t4 : Bool) (t5 : Bool) (t6 : Bool) (t7 : Int) (t8 : Bool) : law_normal.c0 false (fun _ => true) a0 a1 a2 a3 a4 t1 t2 t3 t4 t5 t6 t7 t8 = true → law_normal.c0 none (fun q => some (k q)) a0 a1 a2 a3 a4 t1 t2 t3 t4 t5 t6 t7 t8 = some (k (law_normal.c0 (false) id a0 a1 a2 a3 a4 t1 t2 t3 t4 t5 t6 t7 t8)) := by
  unfold law_normal.c0; (repeat' (first | (apply pn k) | (exact pn_none _ _) | (exact pn_leaf k _)))
theorem law_normal.p {γ : Type} (k : Bool → γ) (a0 : Bool) (a1 : Int) (a2 : Int) (a3 : Int) (a4 : Int) (h : law_normal.ok a0 a1 a2 a3 a4 = true) : law_normal.c none (fun q => some (k q)) a0 a1 a2 a3 a4 = some (k (law_normal a0 a1 a2 a3 a4)) :=
  let t1 := law_inside.ok a0 a1 a2 a3 a4 a1; let t2 := law_inside.ok a0 a1 a2 a3 a4 a2; let t3 := law_inside a0 a1 a2 a3 a4 a1; let t4 := bif decide (a1 > a2) then true else !t3; let t5 := law_inside a0 a1 a2 a3 a4 a2; let t6 := bif t4 then true else !t5; let t7 := IntKind.u64.wrap a1; let t8 := bif decide (a3 > 0) then decide (a4 < a3) else false; law_normal.p0 k a0 a1 a2 a3 a4 t1 t2 t3 t4 t5 t6 t7 t8 h
theorem law_normal.r (a0 : Bool) (a1 : Int) (a2 : Int) (a3 : Int) (a4 : Int) : runF P G (tab L_law_inside) { merge := true, glue := true } 60 Tryz.f15 [.agg #[.bool a0, .int .i64 a1, .int .i64 a2, .int .u64 a3, .int .u64 a4]] = law_normal.c none (fun q => some (.bool (q) : Value)) a0 a1 a2 a3 a4 := by kernel_rfl
theorem law_normal.t : TabOK P G (tab L_law_normal) :=
  TabOK_mkL C law_inside.t Tryz.func15 (by kernel_rfl) { merge := true, glue := true } (fun c _ => LoopsOK_nil c) 60 (by
    rintro ⟨⟨a0, ⟨a1, ⟨a2, ⟨a3, ⟨a4, ⟨⟩⟩⟩⟩⟩⟩, ⟨⟩⟩ h
    exact (law_normal.r a0 a1 a2 a3 a4).trans (law_normal.p (fun q => (.bool (q) : Value)) a0 a1 a2 a3 a4 h))

end
end Go.Proofs.YtonpbbhlmapbdaaGreatDoor.V
