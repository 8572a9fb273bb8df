/- What the functions of this seat compute, told by evaluation of their code. Conditions: none. -/
import Derived.Test.YtoggbmfjkcbilaaDoorE5
set_option linter.unusedVariables false
set_option linter.unusedSimpArgs false
namespace Go.Proofs.YtoggbmfjkcbilaaDoor.V
open Go Go.Wk
noncomputable section

def law_rest.c0 {γ : Type} (n : γ) (k : Int → γ) (a : Int) (b : Int) (t1 : Int) (t2 : Int) (t3 : Int) (t4 : Int) (t5 : Int) (t6 : Int) : γ := bif decide (a ≥ 0)
  then bif !decide (b = 0)
   then k (t1.tmod b)
   else n
  else bif !decide (b = 0)
   then k (t6)
   else n
def law_rest.c {γ : Type} (n : γ) (k : Int → γ) (a : Int) (b : Int) : γ := let t1 := IntKind.u64.wrap a; let t2 := IntKind.u64.wrap (b - 1); let t3 := IntKind.i64.wrap (a + 1); let t4 := IntKind.i64.wrap (0 - t3); let t5 := IntKind.u64.wrap t4; let t6 := IntKind.u64.wrap (t2 - t5.tmod b); law_rest.c0 n k a b t1 t2 t3 t4 t5 t6
def law_rest.ok (a : Int) (b : Int) : Bool := law_rest.c false (fun _ => true) a b
def law_rest (a : Int) (b : Int) : Int := law_rest.c (0) id a b
def law_rest.F : FV := mkF (cP (cI .i64) (cP (cI .u64) cU)) (fun | (a, (b, ())) => law_rest.ok a b) (fun | (a, (b, ())) => .int .u64 (law_rest a b))
def L_law_rest : TL := (49, law_rest.F) :: L_ref_Down
theorem law_rest.p0 {γ : Type} (k : Int → γ) (a : Int) (b : Int) (t1 : Int) (t2 : Int) (t3 : Int) (t4 : Int) (t5 : Int) (t6 : Int) : law_rest.c0 false (fun _ => true) a b t1 t2 t3 t4 t5 t6 = true → law_rest.c0 none (fun q => some (k q)) a b t1 t2 t3 t4 t5 t6 = some (k (law_rest.c0 (0) id a b t1 t2 t3 t4 t5 t6)) := by
  unfold law_rest.c0; (repeat' (first | (apply pn k) | (exact pn_none _ _) | (exact pn_leaf k _)))
theorem law_rest.p {γ : Type} (k : Int → γ) (a : Int) (b : Int) (h : law_rest.ok a b = true) : law_rest.c none (fun q => some (k q)) a b = some (k (law_rest a b)) :=
  let t1 := IntKind.u64.wrap a; let t2 := IntKind.u64.wrap (b - 1); let t3 := IntKind.i64.wrap (a + 1); let t4 := IntKind.i64.wrap (0 - t3); let t5 := IntKind.u64.wrap t4; let t6 := IntKind.u64.wrap (t2 - t5.tmod b); law_rest.p0 k a b t1 t2 t3 t4 t5 t6 h
theorem law_rest.r (a : Int) (b : Int) : runF P GS (tab L_ref_Down) { merge := true } 60 Tryd.f49 [.int .i64 a, .int .u64 b] = law_rest.c none (fun q => some (.int .u64 (q) : Value)) a b := by kernel_rfl
theorem law_rest.t : TabOK P GS (tab L_law_rest) :=
  TabOK_mk CS ref_Down.t Tryd.func49 (by kernel_rfl) true 60 (by
    rintro ⟨a, ⟨b, ⟨⟩⟩⟩ h
    exact (law_rest.r a b).trans (law_rest.p (fun q => (.int .u64 (q) : Value)) a b h))

def law_inside.c0 {γ : Type} (n : γ) (k : Bool → γ) (a0 : Int) (a1 : Int) (b : Int) (t1 : Int) (t2 : Bool) (t3 : Int) : γ := bif a0 == 0
  then k (t1 == a1)
  else bif t2
   then bif !decide (a0 = 0)
    then k (t3 == a1.tmod a0)
    else n
   else n
def law_inside.c {γ : Type} (n : γ) (k : Bool → γ) (a0 : Int) (a1 : Int) (b : Int) : γ := let t1 := IntKind.u64.wrap b; let t2 := law_rest.ok b a0; let t3 := law_rest b a0; law_inside.c0 n k a0 a1 b t1 t2 t3
def law_inside.ok (a0 : Int) (a1 : Int) (b : Int) : Bool := law_inside.c false (fun _ => true) a0 a1 b
def law_inside (a0 : Int) (a1 : Int) (b : Int) : Bool := law_inside.c (false) id a0 a1 b
def law_inside.F : FV := mkF (cP (cA (cP (cI .u64) (cP (cI .u64) cU))) (cP (cI .i64) cU)) (fun | ((a0, (a1, ())), (b, ())) => law_inside.ok a0 a1 b) (fun | ((a0, (a1, ())), (b, ())) => .bool (law_inside a0 a1 b))
def L_law_inside : TL := (11, law_inside.F) :: L_law_rest
theorem law_inside.p0 {γ : Type} (k : Bool → γ) (a0 : Int) (a1 : Int) (b : Int) (t1 : Int) (t2 : Bool) (t3 : Int) : law_inside.c0 false (fun _ => true) a0 a1 b t1 t2 t3 = true → law_inside.c0 none (fun q => some (k q)) a0 a1 b t1 t2 t3 = some (k (law_inside.c0 (false) id a0 a1 b t1 t2 t3)) := by
  unfold law_inside.c0; (repeat' (first | (apply pn k) | (exact pn_none _ _) | (exact pn_leaf k _)))
theorem law_inside.p {γ : Type} (k : Bool → γ) (a0 : Int) (a1 : Int) (b : Int) (h : law_inside.ok a0 a1 b = true) : law_inside.c none (fun q => some (k q)) a0 a1 b = some (k (law_inside a0 a1 b)) :=
  let t1 := IntKind.u64.wrap b; let t2 := law_rest.ok b a0; let t3 := law_rest b a0; law_inside.p0 k a0 a1 b t1 t2 t3 h
theorem law_inside.r (a0 : Int) (a1 : Int) (b : Int) : runF P GS (tab L_law_rest) { merge := true } 60 Tryd.f11 [.agg #[.int .u64 a0, .int .u64 a1], .int .i64 b] = law_inside.c none (fun q => some (.bool (q) : Value)) a0 a1 b := by kernel_rfl
theorem law_inside.t : TabOK P GS (tab L_law_inside) :=
  TabOK_mk CS law_rest.t Tryd.func11 (by kernel_rfl) true 60 (by
    rintro ⟨⟨a0, ⟨a1, ⟨⟩⟩⟩, ⟨b, ⟨⟩⟩⟩ h
    exact (law_inside.r a0 a1 b).trans (law_inside.p (fun q => (.bool (q) : Value)) a0 a1 b h))

def law_works.c0 {γ : Type} (n : γ) (k : Bool → γ)  (t1 : Bool) (t2 : Int × Int × Bool) (t3 : Bool) (t4 : Bool) (t5 : Bool) (t6 : Int × Int) (t7 : Int × Int) (t8 : Bool) (t9 : Int × Int) : γ := bif t1
  then bif t2.snd.snd
   then bif t2.fst == 12 && (t2.snd.fst == 9 && true)
    then bif t3
     then bif t4
      then bif t5
       then bif t8
        then k (t9.fst == 6 && (t9.snd == 3 && true))
        else n
       else k (false)
      else n
     else k (false)
    else k (false)
   else k (false)
  else n
def law_works.c {γ : Type} (n : γ) (k : Bool → γ)  : γ := let t1 := cong_Meet.ok 4 1 6 3; let t2 := cong_Meet 4 1 6 3; let t3 := cong_Has t2.fst t2.snd.fst 21; let t4 := cong_Leq.ok t2.fst t2.snd.fst 3 0; let t5 := cong_Leq t2.fst t2.snd.fst 3 0; let t6 := cong_Const 3; let t7 := cong_Const 9; let t8 := cong_Join.ok t6.fst t6.snd t7.fst t7.snd; let t9 := cong_Join t6.fst t6.snd t7.fst t7.snd; law_works.c0 n k  t1 t2 t3 t4 t5 t6 t7 t8 t9
def law_works.ok  : Bool := law_works.c false (fun _ => true) 
def law_works  : Bool := law_works.c (false) id 
def law_works.F : FV := mkF cU (fun | () => law_works.ok ) (fun | () => .bool (law_works))
def L_law_works : TL := (8, law_works.F) :: L_law_inside
theorem law_works.p0 {γ : Type} (k : Bool → γ)  (t1 : Bool) (t2 : Int × Int × Bool) (t3 : Bool) (t4 : Bool) (t5 : Bool) (t6 : Int × Int) (t7 : Int × Int) (t8 : Bool) (t9 : Int × Int) : law_works.c0 false (fun _ => true)  t1 t2 t3 t4 t5 t6 t7 t8 t9 = true → law_works.c0 none (fun q => some (k q))  t1 t2 t3 t4 t5 t6 t7 t8 t9 = some (k (law_works.c0 (false) id  t1 t2 t3 t4 t5 t6 t7 t8 t9)) := by
  unfold law_works.c0; (repeat' (first | (apply pn k) | (exact pn_none _ _) | (exact pn_leaf k _)))
theorem law_works.p {γ : Type} (k : Bool → γ)  (h : law_works.ok  = true) : law_works.c none (fun q => some (k q))  = some (k (law_works)) :=
  let t1 := cong_Meet.ok 4 1 6 3; let t2 := cong_Meet 4 1 6 3; let t3 := cong_Has t2.fst t2.snd.fst 21; let t4 := cong_Leq.ok t2.fst t2.snd.fst 3 0; let t5 := cong_Leq t2.fst t2.snd.fst 3 0; let t6 := cong_Const 3; let t7 := cong_Const 9; let t8 := cong_Join.ok t6.fst t6.snd t7.fst t7.snd; let t9 := cong_Join t6.fst t6.snd t7.fst t7.snd; law_works.p0 k  t1 t2 t3 t4 t5 t6 t7 t8 t9 h
theorem law_works.r  : runF P GS (tab L_law_inside) { merge := true } 60 Tryd.f8 [] = law_works.c none (fun q => some (.bool (q) : Value))  := by kernel_rfl
theorem law_works.t : TabOK P GS (tab L_law_works) :=
  TabOK_mk CS law_inside.t Tryd.func8 (by kernel_rfl) true 60 (by
    rintro ⟨⟩ h
    exact (law_works.r ).trans (law_works.p (fun q => (.bool (q) : Value))  h))

def law_CongSets.c0 {γ : Type} (n : γ) (k : Bool → γ) (a0 : Int) (a1 : Int) (b0 : Int) (b1 : Int) (c : Int) (t1 : Int × Int) (t2 : Int × Int) (t3 : Int × Int) (t4 : Int × Int) (t5 : Bool) (t6 : Bool) (t7 : Bool) (t8 : Bool) (t9 : Bool) (t10 : Bool) (t11 : Bool) (t12 : Bool) (t13 : Bool) (t14 : Int × Int) (t15 : Int × Int) (t16 : Bool) (t17 : Bool) (t18 : Bool) (t19 : Bool) (t20 : Int × Int × Bool) (t21 : Int × Int × Bool) (t22 : Int × Bool) (t23 : Int × Bool) (t24 : Int × Bool) (t25 : Int × Bool) : γ := bif law_works.ok
  then bif !law_works
   then k (false)
   else bif !(t1.fst == t2.fst && (t1.snd == t2.snd && true))
    then k (false)
    else bif !(t3.fst == t4.fst && (t3.snd == t4.snd && true))
     then k (false)
     else bif t5
      then bif !t6 == t7
       then k (false)
       else bif t8
        then bif t9
         then bif !t10 == t11
          then k (false)
          else bif t12
           then bif t13
            then bif !(t14.fst == t15.fst && (t14.snd == t15.snd && true))
             then k (false)
             else bif t16
              then bif t17
               then bif t18
                then bif t19
                 then bif t20.fst == t21.fst && (t20.snd.fst == t21.snd.fst && true)
                  then bif t20.snd.snd == t21.snd.snd
                   then bif t22.fst == t23.fst
                    then bif t22.snd == t23.snd
                     then bif t24.fst == t25.fst
                      then k (t24.snd == t25.snd)
                      else k (false)
                     else k (false)
                    else k (false)
                   else k (false)
                  else k (false)
                 else n
                else n
               else n
              else n
            else n
           else n
         else n
        else n
      else n
  else n
def law_CongSets.c {γ : Type} (n : γ) (k : Bool → γ) (a0 : Int) (a1 : Int) (b0 : Int) (b1 : Int) (c : Int) : γ := let t1 := cong_Norm a0 a1; let t2 := ref_Norm a0 a1; let t3 := cong_Const c; let t4 := ref_Const c; let t5 := ref_Has.ok a0 a1 c; let t6 := cong_Has a0 a1 c; let t7 := ref_Has a0 a1 c; let t8 := cong_Leq.ok a0 a1 b0 b1; let t9 := ref_Leq.ok a0 a1 b0 b1; let t10 := cong_Leq a0 a1 b0 b1; let t11 := ref_Leq a0 a1 b0 b1; let t12 := cong_Join.ok a0 a1 b0 b1; let t13 := ref_Join.ok a0 a1 b0 b1; let t14 := cong_Join a0 a1 b0 b1; let t15 := ref_Join a0 a1 b0 b1; let t16 := cong_Meet.ok a0 a1 b0 b1; let t17 := ref_Meet.ok a0 a1 b0 b1; let t18 := ref_Up.ok a0 a1 c; let t19 := ref_Down.ok a0 a1 c; let t20 := cong_Meet a0 a1 b0 b1; let t21 := ref_Meet a0 a1 b0 b1; let t22 := cong_Up a0 a1 c; let t23 := ref_Up a0 a1 c; let t24 := cong_Down a0 a1 c; let t25 := ref_Down a0 a1 c; law_CongSets.c0 n k a0 a1 b0 b1 c t1 t2 t3 t4 t5 t6 t7 t8 t9 t10 t11 t12 t13 t14 t15 t16 t17 t18 t19 t20 t21 t22 t23 t24 t25
def law_CongSets.ok (a0 : Int) (a1 : Int) (b0 : Int) (b1 : Int) (c : Int) : Bool := law_CongSets.c false (fun _ => true) a0 a1 b0 b1 c
def law_CongSets (a0 : Int) (a1 : Int) (b0 : Int) (b1 : Int) (c : Int) : Bool := law_CongSets.c (false) id a0 a1 b0 b1 c
def law_CongSets.F : FV := mkF (cP (cA (cP (cI .u64) (cP (cI .u64) cU))) (cP (cA (cP (cI .u64) (cP (cI .u64) cU))) (cP (cI .i64) cU))) (fun | ((a0, (a1, ())), ((b0, (b1, ())), (c, ()))) => law_CongSets.ok a0 a1 b0 b1 c) (fun | ((a0, (a1, ())), ((b0, (b1, ())), (c, ()))) => .bool (law_CongSets a0 a1 b0 b1 c))
def L_law_CongSets : TL := (4, law_CongSets.F) :: L_law_works
theorem law_CongSets.p0 {γ : Type} (k : Bool → γ) (a0 : Int) (a1 : Int) (b0 : Int) (b1 : Int) (c : Int) (t1 : Int × Int) (t2 : Int × Int) (t3 : Int × Int) (t4 : Int × Int) (t5 : Bool) (t6 : Bool) (t7 : Bool) (t8 : Bool) (t9 : Bool) (t10 : Bool) (t11 : Bool) (t12 : Bool) (t13 : Bool) (t14 : Int × Int) (t15 : Int × Int) (t16 : Bool) (t17 : Bool) (t18 : Bool) (t19 : Bool) (t20 : Int × Int × Bool) (t21 : Int × Int × Bool) (t22 : Int × Bool) (t23 : Int × Bool) (t24 : Int × Bool) (t25 : Int × Bool) : law_CongSets.c0 false (fun _ => true) a0 a1 b0 b1 c t1 t2 t3 t4 t5 t6 t7 t8 t9 t10 t11 t12 t13 t14 t15 t16 t17 t18 t19 t20 t21 t22 t23 t24 t25 = true → law_CongSets.c0 none (fun q => some (k q)) a0 a1 b0 b1 c t1 t2 t3 t4 t5 t6 t7 t8 t9 t10 t11 t12 t13 t14 t15 t16 t17 t18 t19 t20 t21 t22 t23 t24 t25 = some (k (law_CongSets.c0 (false) id a0 a1 b0 b1 c t1 t2 t3 t4 t5 t6 t7 t8 t9 t10 t11 t12 t13 t14 t15 t16 t17 t18 t19 t20 t21 t22 t23 t24 t25)) := by
  unfold law_CongSets.c0; (repeat' (first | (apply pn k) | (exact pn_none _ _) | (exact pn_leaf k _)))
theorem law_CongSets.p {γ : Type} (k : Bool → γ) (a0 : Int) (a1 : Int) (b0 : Int) (b1 : Int) (c : Int) (h : law_CongSets.ok a0 a1 b0 b1 c = true) : law_CongSets.c none (fun q => some (k q)) a0 a1 b0 b1 c = some (k (law_CongSets a0 a1 b0 b1 c)) :=
  let t1 := cong_Norm a0 a1; let t2 := ref_Norm a0 a1; let t3 := cong_Const c; let t4 := ref_Const c; let t5 := ref_Has.ok a0 a1 c; let t6 := cong_Has a0 a1 c; let t7 := ref_Has a0 a1 c; let t8 := cong_Leq.ok a0 a1 b0 b1; let t9 := ref_Leq.ok a0 a1 b0 b1; let t10 := cong_Leq a0 a1 b0 b1; let t11 := ref_Leq a0 a1 b0 b1; let t12 := cong_Join.ok a0 a1 b0 b1; let t13 := ref_Join.ok a0 a1 b0 b1; let t14 := cong_Join a0 a1 b0 b1; let t15 := ref_Join a0 a1 b0 b1; let t16 := cong_Meet.ok a0 a1 b0 b1; let t17 := ref_Meet.ok a0 a1 b0 b1; let t18 := ref_Up.ok a0 a1 c; let t19 := ref_Down.ok a0 a1 c; let t20 := cong_Meet a0 a1 b0 b1; let t21 := ref_Meet a0 a1 b0 b1; let t22 := cong_Up a0 a1 c; let t23 := ref_Up a0 a1 c; let t24 := cong_Down a0 a1 c; let t25 := ref_Down a0 a1 c; law_CongSets.p0 k a0 a1 b0 b1 c t1 t2 t3 t4 t5 t6 t7 t8 t9 t10 t11 t12 t13 t14 t15 t16 t17 t18 t19 t20 t21 t22 t23 t24 t25 h
theorem law_CongSets.r (a0 : Int) (a1 : Int) (b0 : Int) (b1 : Int) (c : Int) : runF P GS (tab L_law_works) { merge := true } 60 Tryd.f4 [.agg #[.int .u64 a0, .int .u64 a1], .agg #[.int .u64 b0, .int .u64 b1], .int .i64 c] = law_CongSets.c none (fun q => some (.bool (q) : Value)) a0 a1 b0 b1 c := by kernel_rfl
theorem law_CongSets.t : TabOK P GS (tab L_law_CongSets) :=
  TabOK_mk CS law_works.t Tryd.func4 (by kernel_rfl) true 60 (by
    rintro ⟨⟨a0, ⟨a1, ⟨⟩⟩⟩, ⟨⟨b0, ⟨b1, ⟨⟩⟩⟩, ⟨c, ⟨⟩⟩⟩⟩ h
    exact (law_CongSets.r a0 a1 b0 b1 c).trans (law_CongSets.p (fun q => (.bool (q) : Value)) a0 a1 b0 b1 c h))

end
end Go.Proofs.YtoggbmfjkcbilaaDoor.V
