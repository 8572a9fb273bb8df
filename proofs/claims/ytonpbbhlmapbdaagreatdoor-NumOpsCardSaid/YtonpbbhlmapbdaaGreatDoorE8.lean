/- What the functions of this seat compute, told by evaluation of their code. Conditions: none. -/
import Derived.Test.YtonpbbhlmapbdaaGreatDoorE7
set_option linter.unusedVariables false
set_option linter.unusedSimpArgs false
namespace Go.Proofs.YtonpbbhlmapbdaaGreatDoor.V
open Go Go.Wk
noncomputable section
def law_works.c0 {γ : Type} (n : γ) (k : Bool → γ)  (t1 : Bool × Int × Int × Int × Int) (t2 : Bool × Int × Int × Int × Int) (t3 : Bool) (t4 : Bool × Int × Int × Int × Int) (t5 : Bool) (t6 : Bool × Int × Int × Int × Int × Int) (t7 : Bool) (t8 : Bool) (t9 : Bool) (t10 : Bool × Int × Int × Int × Int) (t11 : Bool) (t12 : Bool) (t13 : Bool) (t14 : Bool) (t15 : Bool × Int × Int × Int × Int) (t16 : Bool) (t17 : Bool × Int × Int × Int × Int) (t18 : Bool) (t19 : Bool × Int × Int × Int × Int) (t20 : Bool × Int × Int × Int × Int) (t21 : Bool) : γ := bif t3
  then bif (t5 || !(t9 && true)) && ((t11 || !(t13 && true)) && ((t14 || !(t16 && true)) && true))
   then k (t21)
   else n
  else n
def law_works.c {γ : Type} (n : γ) (k : Bool → γ)  : γ := let t1 := num_Make 1 10 4 3; let t2 := num_Const 1; let t3 := num_Apply.ok 3 t1.fst t1.snd.fst t1.snd.snd.fst t1.snd.snd.snd.fst t1.snd.snd.snd.snd t2.fst t2.snd.fst t2.snd.snd.fst t2.snd.snd.snd.fst t2.snd.snd.snd.snd; let t4 := num_Const 3; let t5 := num_Leq.ok t4.fst t4.snd.fst t4.snd.snd.fst t4.snd.snd.snd.fst t4.snd.snd.snd.snd t1.fst t1.snd.fst t1.snd.snd.fst t1.snd.snd.snd.fst t1.snd.snd.snd.snd; let t6 := num_Apply 3 t1.fst t1.snd.fst t1.snd.snd.fst t1.snd.snd.snd.fst t1.snd.snd.snd.snd t2.fst t2.snd.fst t2.snd.snd.fst t2.snd.snd.snd.fst t2.snd.snd.snd.snd; let t7 := bif t6.snd.snd.snd.snd.snd == 0 then t6.fst == false && (t6.snd.fst == 4 && (t6.snd.snd.fst == 8 && true) && (t6.snd.snd.snd.fst == 4 && (t6.snd.snd.snd.snd.fst == 0 && true) && true)) else false; let t8 := num_Has t1.fst t1.snd.fst t1.snd.snd.fst t1.snd.snd.snd.fst t1.snd.snd.snd.snd 7; let t9 := bif t7 then t8 else false; let t10 := num_Const 7; let t11 := num_Join.ok t4.fst t4.snd.fst t4.snd.snd.fst t4.snd.snd.snd.fst t4.snd.snd.snd.snd t10.fst t10.snd.fst t10.snd.snd.fst t10.snd.snd.snd.fst t10.snd.snd.snd.snd; let t12 := num_Leq t4.fst t4.snd.fst t4.snd.snd.fst t4.snd.snd.snd.fst t4.snd.snd.snd.snd t1.fst t1.snd.fst t1.snd.snd.fst t1.snd.snd.snd.fst t1.snd.snd.snd.snd; let t13 := bif t9 then t12 else false; let t14 := num_Meet.ok t1.fst t1.snd.fst t1.snd.snd.fst t1.snd.snd.snd.fst t1.snd.snd.snd.snd num_Bot.fst num_Bot.snd.fst num_Bot.snd.snd.fst num_Bot.snd.snd.snd.fst num_Bot.snd.snd.snd.snd; let t15 := num_Join t4.fst t4.snd.fst t4.snd.snd.fst t4.snd.snd.snd.fst t4.snd.snd.snd.snd t10.fst t10.snd.fst t10.snd.snd.fst t10.snd.snd.snd.fst t10.snd.snd.snd.snd; let t16 := bif t13 then t15.fst == t1.fst && (t15.snd.fst == t1.snd.fst && (t15.snd.snd.fst == t1.snd.snd.fst && true) && (t15.snd.snd.snd.fst == t1.snd.snd.snd.fst && (t15.snd.snd.snd.snd == t1.snd.snd.snd.snd && true) && true)) else false; let t17 := num_Meet t1.fst t1.snd.fst t1.snd.snd.fst t1.snd.snd.snd.fst t1.snd.snd.snd.snd num_Bot.fst num_Bot.snd.fst num_Bot.snd.snd.fst num_Bot.snd.snd.snd.fst num_Bot.snd.snd.snd.snd; let t18 := bif t16 then t17.fst else false; let t19 := num_Const 0; let t20 := num_NonZero t19.fst t19.snd.fst t19.snd.snd.fst t19.snd.snd.snd.fst t19.snd.snd.snd.snd; let t21 := bif t18 then t20.fst else false; law_works.c0 n k  t1 t2 t3 t4 t5 t6 t7 t8 t9 t10 t11 t12 t13 t14 t15 t16 t17 t18 t19 t20 t21
def law_works.ok  : Bool := law_works.c false (fun _ => true)
def law_works  : Bool := law_works.c (false) id
def law_works.F : FV := mkF cU (fun | () => law_works.ok ) (fun | () => .bool (law_works))
def L_law_works : TL := (13, law_works.F) :: L_nref_Apply
theorem law_works.p0 {γ : Type} (k : Bool → γ)  (t1 : Bool × Int × Int × Int × Int) (t2 : Bool × Int × Int × Int × Int) (t3 : Bool) (t4 : Bool × Int × Int × Int × Int) (t5 : Bool) (t6 : Bool × Int × Int × Int × Int × Int) (t7 : Bool) (t8 : Bool) (t9 : Bool) (t10 : Bool × Int × Int × Int × Int) (t11 : Bool) (t12 : Bool) (t13 : Bool) (t14 : Bool) (t15 : Bool × Int × Int × Int × Int) (t16 : Bool) (t17 : Bool × Int × Int × Int × Int) (t18 : Bool) (t19 : Bool × Int × Int × Int × Int) (t20 : Bool × Int × Int × Int × Int) (t21 : Bool) : law_works.c0 false (fun _ => true)  t1 t2 t3 t4 t5 t6 t7 t8 t9 t10 t11 t12 t13 t14 t15 t16 t17 t18 t19 t20 t21 = true → law_works.c0 none (fun q => some (k q))  t1 t2 t3 t4 t5 t6 t7 t8 t9 t10 t11 t12 t13 t14 t15 t16 t17 t18 t19 t20 t21 = some (k (law_works.c0 (false) id  t1 t2 t3 t4 t5 t6 t7 t8 t9 t10 t11 t12 t13 t14 t15 t16 t17 t18 t19 t20 t21)) := by
  unfold law_works.c0; (repeat' (first | (apply pn k) | (exact pn_none _ _) | (exact pn_leaf k _)))
theorem law_works.p {γ : Type} (k : Bool → γ) (h : law_works.ok = true) : law_works.c none (fun q => some (k q)) = some (k (law_works)) := by
  revert h; unfold law_works.ok law_works law_works.c; exact fun h => law_works.p0 k _ _ _ _ _ _ _ _ _ _ _ _ _ _ _ _ _ _ _ _ _ h
theorem law_works.r  : runF P G (tab L_nref_Apply) { merge := true, glue := true } 60 Tryz.f13 [] = law_works.c none (fun q => some (.bool (q) : Value))  := by kernel_rfl
theorem law_works.t : TabOK P G (tab L_law_works) :=
  TabOK_mkL C nref_Apply.t Tryz.func13 (by kernel_rfl) { merge := true, glue := true } (fun c _ => LoopsOK_nil c) 60 (by
    rintro ⟨⟩ h
    exact (law_works.r ).trans (law_works.p (fun q => (.bool (q) : Value))  h))
def law_rest.c0 {γ : Type} (n : γ) (k : Int → γ) (a : Int) (b : Int) (t1 : Int) (t2 : Int) (t3 : Int) (t4 : Int) (t5 : Int) (t6 : Int) : γ := bif decide (a ≥ 0)
  then bif !decide (b = 0)
   then k (t1.tmod b)
   else n
  else bif !decide (b = 0)
   then k (t6)
   else n
def law_rest.c {γ : Type} (n : γ) (k : Int → γ) (a : Int) (b : Int) : γ := let t1 := IntKind.u64.wrap a; let t2 := IntKind.u64.wrap (b - 1); let t3 := IntKind.i64.wrap (a + 1); let t4 := IntKind.i64.wrap (0 - t3); let t5 := IntKind.u64.wrap t4; let t6 := IntKind.u64.wrap (t2 - t5.tmod b); law_rest.c0 n k a b t1 t2 t3 t4 t5 t6
def law_rest.ok (a : Int) (b : Int) : Bool := law_rest.c false (fun _ => true) a b
def law_rest (a : Int) (b : Int) : Int := law_rest.c (0) id a b
def law_rest.F : FV := mkF (cP (cI .i64) (cP (cI .u64) cU)) (fun | (a, (b, ())) => law_rest.ok a b) (fun | (a, (b, ())) => .int .u64 (law_rest a b))
def L_law_rest : TL := (54, law_rest.F) :: L_law_works
theorem law_rest.p0 {γ : Type} (k : Int → γ) (a : Int) (b : Int) (t1 : Int) (t2 : Int) (t3 : Int) (t4 : Int) (t5 : Int) (t6 : Int) : law_rest.c0 false (fun _ => true) a b t1 t2 t3 t4 t5 t6 = true → law_rest.c0 none (fun q => some (k q)) a b t1 t2 t3 t4 t5 t6 = some (k (law_rest.c0 (0) id a b t1 t2 t3 t4 t5 t6)) := by
  unfold law_rest.c0; (repeat' (first | (apply pn k) | (exact pn_none _ _) | (exact pn_leaf k _)))
theorem law_rest.p {γ : Type} (k : Int → γ) (a : Int) (b : Int) (h : law_rest.ok a b = true) : law_rest.c none (fun q => some (k q)) a b = some (k (law_rest a b)) :=
  let t1 := IntKind.u64.wrap a; let t2 := IntKind.u64.wrap (b - 1); let t3 := IntKind.i64.wrap (a + 1); let t4 := IntKind.i64.wrap (0 - t3); let t5 := IntKind.u64.wrap t4; let t6 := IntKind.u64.wrap (t2 - t5.tmod b); law_rest.p0 k a b t1 t2 t3 t4 t5 t6 h
theorem law_rest.r (a : Int) (b : Int) : runF P G (tab L_law_works) { merge := true, glue := true } 60 Tryz.f54 [.int .i64 a, .int .u64 b] = law_rest.c none (fun q => some (.int .u64 (q) : Value)) a b := by kernel_rfl
theorem law_rest.t : TabOK P G (tab L_law_rest) :=
  TabOK_mkL C law_works.t Tryz.func54 (by kernel_rfl) { merge := true, glue := true } (fun c _ => LoopsOK_nil c) 60 (by
    rintro ⟨a, ⟨b, ⟨⟩⟩⟩ h
    exact (law_rest.r a b).trans (law_rest.p (fun q => (.int .u64 (q) : Value)) a b h))
end
end Go.Proofs.YtonpbbhlmapbdaaGreatDoor.V
