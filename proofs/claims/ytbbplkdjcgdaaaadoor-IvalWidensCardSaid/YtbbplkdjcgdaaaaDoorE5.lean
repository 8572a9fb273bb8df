/- What the functions of this seat compute, told by evaluation of their code. Conditions: none. -/
import Derived.Test.YtbbplkdjcgdaaaaDoorE4
set_option linter.unusedVariables false
set_option linter.unusedSimpArgs false
namespace Go.Proofs.YtbbplkdjcgdaaaaDoor.V
open Go Go.Wk

def law_IvalOps.c0 {γ : Type} (n : γ) (k : Bool → γ) (a0 : Int) (a1 : Int) (b0 : Int) (b1 : Int) (t1 : Int × Int × Bool) (t2 : Int × Int × Bool) (t3 : Int × Int × Bool) (t4 : Int × Int × Bool) (t5 : Int × Int × Bool) (t6 : Int × Int × Bool) (t7 : Int × Int × Bool) (t8 : Int × Int × Bool) (t9 : Bool) (t10 : Int × Int × Bool) (t11 : Int × Int × Bool) (t12 : Bool) (t13 : Int × Int × Bool) (t14 : Int × Int × Bool) : γ := bif t1.fst == t2.fst && (t1.snd.fst == t2.snd.fst && true)
  then bif t1.snd.snd == t2.snd.snd
   then bif t3.fst == t4.fst && (t3.snd.fst == t4.snd.fst && true)
    then bif t3.snd.snd == t4.snd.snd
     then bif t5.fst == t6.fst && (t5.snd.fst == t6.snd.fst && true)
      then bif t5.snd.snd == t6.snd.snd
       then bif t7.fst == t8.fst && (t7.snd.fst == t8.snd.fst && true)
        then bif t9
         then bif t7.snd.snd == t8.snd.snd
          then bif t10.fst == t11.fst && (t10.snd.fst == t11.snd.fst && true)
           then bif t12
            then bif t10.snd.snd == t11.snd.snd
             then bif t13.fst == t14.fst && (t13.snd.fst == t14.snd.fst && true)
              then k (t13.snd.snd == t14.snd.snd)
              else k (false)
             else k (false)
            else n
           else bif t12
            then k (false)
            else n
          else bif t12
           then k (false)
           else n
         else n
        else bif t9
         then bif t12
          then k (false)
          else n
         else n
       else bif t9
        then bif t12
         then k (false)
         else n
        else n
      else bif t9
       then bif t12
        then k (false)
        else n
       else n
     else bif t9
      then bif t12
       then k (false)
       else n
      else n
    else bif t9
     then bif t12
      then k (false)
      else n
     else n
   else bif t9
    then bif t12
     then k (false)
     else n
    else n
  else bif t9
   then bif t12
    then k (false)
    else n
   else n
def law_IvalOps.c {γ : Type} (n : γ) (k : Bool → γ) (a0 : Int) (a1 : Int) (b0 : Int) (b1 : Int) : γ := let t1 := ival_Neg a0 a1; let t2 := ref_Neg a0 a1; let t3 := ival_Add a0 a1 b0 b1; let t4 := ref_Add a0 a1 b0 b1; let t5 := ival_Sub a0 a1 b0 b1; let t6 := ref_Sub a0 a1 b0 b1; let t7 := ival_Mul a0 a1 b0 b1; let t8 := ref_Mul a0 a1 b0 b1; let t9 := ref_Div.ok a0 a1 b0 b1; let t10 := ival_Div a0 a1 b0 b1; let t11 := ref_Div a0 a1 b0 b1; let t12 := ref_Rem.ok a0 a1 b0 b1; let t13 := ival_Rem a0 a1 b0 b1; let t14 := ref_Rem a0 a1 b0 b1; law_IvalOps.c0 n k a0 a1 b0 b1 t1 t2 t3 t4 t5 t6 t7 t8 t9 t10 t11 t12 t13 t14
def law_IvalOps.ok (a0 : Int) (a1 : Int) (b0 : Int) (b1 : Int) : Bool := law_IvalOps.c false (fun _ => true) a0 a1 b0 b1
def law_IvalOps (a0 : Int) (a1 : Int) (b0 : Int) (b1 : Int) : Bool := law_IvalOps.c (false) id a0 a1 b0 b1
def law_IvalOps.F : FV := mkF (cP (cA (cP (cI .i64) (cP (cI .i64) cU))) (cP (cA (cP (cI .i64) (cP (cI .i64) cU))) cU)) (fun | ((a0, (a1, ())), ((b0, (b1, ())), ())) => law_IvalOps.ok a0 a1 b0 b1) (fun | ((a0, (a1, ())), ((b0, (b1, ())), ())) => .bool (law_IvalOps a0 a1 b0 b1))
def L_law_IvalOps : TL := (5, law_IvalOps.F) :: L_ref_Rem
theorem law_IvalOps.p0 {γ : Type} (k : Bool → γ) (a0 : Int) (a1 : Int) (b0 : Int) (b1 : Int) (t1 : Int × Int × Bool) (t2 : Int × Int × Bool) (t3 : Int × Int × Bool) (t4 : Int × Int × Bool) (t5 : Int × Int × Bool) (t6 : Int × Int × Bool) (t7 : Int × Int × Bool) (t8 : Int × Int × Bool) (t9 : Bool) (t10 : Int × Int × Bool) (t11 : Int × Int × Bool) (t12 : Bool) (t13 : Int × Int × Bool) (t14 : Int × Int × Bool) : law_IvalOps.c0 false (fun _ => true) a0 a1 b0 b1 t1 t2 t3 t4 t5 t6 t7 t8 t9 t10 t11 t12 t13 t14 = true → law_IvalOps.c0 none (fun q => some (k q)) a0 a1 b0 b1 t1 t2 t3 t4 t5 t6 t7 t8 t9 t10 t11 t12 t13 t14 = some (k (law_IvalOps.c0 (false) id a0 a1 b0 b1 t1 t2 t3 t4 t5 t6 t7 t8 t9 t10 t11 t12 t13 t14)) := by
  unfold law_IvalOps.c0; (repeat' (first | (apply pn k) | (exact pn_none _ _) | (exact pn_leaf k _)))
theorem law_IvalOps.p {γ : Type} (k : Bool → γ) (a0 : Int) (a1 : Int) (b0 : Int) (b1 : Int) (h : law_IvalOps.ok a0 a1 b0 b1 = true) : law_IvalOps.c none (fun q => some (k q)) a0 a1 b0 b1 = some (k (law_IvalOps a0 a1 b0 b1)) :=
  let t1 := ival_Neg a0 a1; let t2 := ref_Neg a0 a1; let t3 := ival_Add a0 a1 b0 b1; let t4 := ref_Add a0 a1 b0 b1; let t5 := ival_Sub a0 a1 b0 b1; let t6 := ref_Sub a0 a1 b0 b1; let t7 := ival_Mul a0 a1 b0 b1; let t8 := ref_Mul a0 a1 b0 b1; let t9 := ref_Div.ok a0 a1 b0 b1; let t10 := ival_Div a0 a1 b0 b1; let t11 := ref_Div a0 a1 b0 b1; let t12 := ref_Rem.ok a0 a1 b0 b1; let t13 := ival_Rem a0 a1 b0 b1; let t14 := ref_Rem a0 a1 b0 b1; law_IvalOps.p0 k a0 a1 b0 b1 t1 t2 t3 t4 t5 t6 t7 t8 t9 t10 t11 t12 t13 t14 h
theorem law_IvalOps.r (a0 : Int) (a1 : Int) (b0 : Int) (b1 : Int) : runF P G (tab L_ref_Rem) { merge := true } 60 Tryd.f5 [.agg #[.int .i64 a0, .int .i64 a1], .agg #[.int .i64 b0, .int .i64 b1]] = law_IvalOps.c none (fun q => some (.bool (q) : Value)) a0 a1 b0 b1 := by kernel_rfl
theorem law_IvalOps.t : TabOK P G (tab L_law_IvalOps) :=
  TabOK_mk C ref_Rem.t Tryd.func5 (by kernel_rfl) true 60 (by
    rintro ⟨⟨a0, ⟨a1, ⟨⟩⟩⟩, ⟨⟨b0, ⟨b1, ⟨⟩⟩⟩, ⟨⟩⟩⟩ h
    exact (law_IvalOps.r a0 a1 b0 b1).trans (law_IvalOps.p (fun q => (.bool (q) : Value)) a0 a1 b0 b1 h))

def law_mod.c0 {γ : Type} (n : γ) (k : Int → γ) (a : Int) (b : Int) (t1 : Int) (t2 : Int) : γ := bif !decide (b = 0)
  then k (t2)
  else n
def law_mod.c {γ : Type} (n : γ) (k : Int → γ) (a : Int) (b : Int) : γ := let t1 := IntKind.i64.wrap (a.tmod b + b); let t2 := bif decide (a.tmod b < 0) then t1 else a.tmod b; law_mod.c0 n k a b t1 t2
def law_mod.ok (a : Int) (b : Int) : Bool := law_mod.c false (fun _ => true) a b
def law_mod (a : Int) (b : Int) : Int := law_mod.c (0) id a b
def law_mod.F : FV := mkF (cP (cI .i64) (cP (cI .i64) cU)) (fun | (a, (b, ())) => law_mod.ok a b) (fun | (a, (b, ())) => .int .i64 (law_mod a b))
def L_law_mod : TL := (65, law_mod.F) :: L_law_IvalOps
theorem law_mod.p0 {γ : Type} (k : Int → γ) (a : Int) (b : Int) (t1 : Int) (t2 : Int) : law_mod.c0 false (fun _ => true) a b t1 t2 = true → law_mod.c0 none (fun q => some (k q)) a b t1 t2 = some (k (law_mod.c0 (0) id a b t1 t2)) := by
  unfold law_mod.c0; (repeat' (first | (apply pn k) | (exact pn_none _ _) | (exact pn_leaf k _)))
theorem law_mod.p {γ : Type} (k : Int → γ) (a : Int) (b : Int) (h : law_mod.ok a b = true) : law_mod.c none (fun q => some (k q)) a b = some (k (law_mod a b)) :=
  let t1 := IntKind.i64.wrap (a.tmod b + b); let t2 := bif decide (a.tmod b < 0) then t1 else a.tmod b; law_mod.p0 k a b t1 t2 h
theorem law_mod.r (a : Int) (b : Int) : runF P G (tab L_law_IvalOps) { merge := true } 60 Tryd.f65 [.int .i64 a, .int .i64 b] = law_mod.c none (fun q => some (.int .i64 (q) : Value)) a b := by kernel_rfl
theorem law_mod.t : TabOK P G (tab L_law_mod) :=
  TabOK_mk C law_IvalOps.t Tryd.func65 (by kernel_rfl) true 60 (by
    rintro ⟨a, ⟨b, ⟨⟩⟩⟩ h
    exact (law_mod.r a b).trans (law_mod.p (fun q => (.int .i64 (q) : Value)) a b h))

def law_inside.c0 {γ : Type} (n : γ) (k : Int → γ) (a0 : Int) (a1 : Int) (b : Int) (t1 : Int) (t2 : Int) (t3 : Int) (t4 : Int) (t5 : Int) (t6 : Int) (t7 : Int) : γ := bif t4 == 0
  then k (b)
  else bif !decide (t4 = 0)
   then k (t7)
   else n
def law_inside.c {γ : Type} (n : γ) (k : Int → γ) (a0 : Int) (a1 : Int) (b : Int) : γ := let t1 := IntKind.u64.wrap a1; let t2 := IntKind.u64.wrap a0; let t3 := IntKind.u64.wrap (t1 - t2); let t4 := IntKind.u64.wrap (t3 + 1); let t5 := IntKind.u64.wrap b; let t6 := IntKind.u64.wrap (t2 + t5.tmod t4); let t7 := IntKind.i64.wrap t6; law_inside.c0 n k a0 a1 b t1 t2 t3 t4 t5 t6 t7
def law_inside.ok (a0 : Int) (a1 : Int) (b : Int) : Bool := law_inside.c false (fun _ => true) a0 a1 b
def law_inside (a0 : Int) (a1 : Int) (b : Int) : Int := law_inside.c (0) id a0 a1 b
def law_inside.F : FV := mkF (cP (cA (cP (cI .i64) (cP (cI .i64) cU))) (cP (cI .i64) cU)) (fun | ((a0, (a1, ())), (b, ())) => law_inside.ok a0 a1 b) (fun | ((a0, (a1, ())), (b, ())) => .int .i64 (law_inside a0 a1 b))
def L_law_inside : TL := (35, law_inside.F) :: L_law_mod
theorem law_inside.p0 {γ : Type} (k : Int → γ) (a0 : Int) (a1 : Int) (b : Int) (t1 : Int) (t2 : Int) (t3 : Int) (t4 : Int) (t5 : Int) (t6 : Int) (t7 : Int) : law_inside.c0 false (fun _ => true) a0 a1 b t1 t2 t3 t4 t5 t6 t7 = true → law_inside.c0 none (fun q => some (k q)) a0 a1 b t1 t2 t3 t4 t5 t6 t7 = some (k (law_inside.c0 (0) id a0 a1 b t1 t2 t3 t4 t5 t6 t7)) := by
  unfold law_inside.c0; (repeat' (first | (apply pn k) | (exact pn_none _ _) | (exact pn_leaf k _)))
theorem law_inside.p {γ : Type} (k : Int → γ) (a0 : Int) (a1 : Int) (b : Int) (h : law_inside.ok a0 a1 b = true) : law_inside.c none (fun q => some (k q)) a0 a1 b = some (k (law_inside a0 a1 b)) :=
  let t1 := IntKind.u64.wrap a1; let t2 := IntKind.u64.wrap a0; let t3 := IntKind.u64.wrap (t1 - t2); let t4 := IntKind.u64.wrap (t3 + 1); let t5 := IntKind.u64.wrap b; let t6 := IntKind.u64.wrap (t2 + t5.tmod t4); let t7 := IntKind.i64.wrap t6; law_inside.p0 k a0 a1 b t1 t2 t3 t4 t5 t6 t7 h
theorem law_inside.r (a0 : Int) (a1 : Int) (b : Int) : runF P G (tab L_law_mod) { merge := true } 60 Tryd.f35 [.agg #[.int .i64 a0, .int .i64 a1], .int .i64 b] = law_inside.c none (fun q => some (.int .i64 (q) : Value)) a0 a1 b := by kernel_rfl
theorem law_inside.t : TabOK P G (tab L_law_inside) :=
  TabOK_mk C law_mod.t Tryd.func35 (by kernel_rfl) true 60 (by
    rintro ⟨⟨a0, ⟨a1, ⟨⟩⟩⟩, ⟨b, ⟨⟩⟩⟩ h
    exact (law_inside.r a0 a1 b).trans (law_inside.p (fun q => (.int .i64 (q) : Value)) a0 a1 b h))

def law_done.c0 {γ : Type} (n : γ) (k : Int × Bool × Bool → γ) (a : Int) (b : Int) (c : Int) (t1 : Int) (t2 : Int) (t3 : Int) (t4 : Int) (t5 : Int) (t6 : Int) (t7 : Int) (t8 : Int) (t9 : Int) (t10 : Int) : γ := bif a == 0
  then k (t1, true, b == -9223372036854775808)
  else bif a == 1
   then bif decide (c > 0)
    then bif decide (b > t2)
     then k (t3, true, true)
     else bif decide (c < 0)
      then k (t3, true, decide (b < t4))
      else k (t3, true, false)
    else bif decide (c < 0)
     then k (t3, true, decide (b < t4))
     else k (t3, true, false)
   else bif a == 2
    then bif decide (c < 0)
     then bif decide (b > t5)
      then k (t6, true, true)
      else bif decide (c > 0)
       then k (t6, true, decide (b < t7))
       else k (t6, true, false)
     else bif decide (c > 0)
      then k (t6, true, decide (b < t7))
      else k (t6, true, false)
    else bif a == 3
     then bif b != 0
      then bif b == -1
       then bif c == -9223372036854775808
        then k (t8, true, true)
        else bif b != -1
         then bif !decide (b = 0)
          then bif t9 != c
           then k (t8, true, true)
           else bif c == -1
            then k (t8, true, b == -9223372036854775808)
            else k (t8, true, false)
          else n
         else bif c == -1
          then k (t8, true, b == -9223372036854775808)
          else k (t8, true, false)
       else bif b != -1
        then bif !decide (b = 0)
         then bif t9 != c
          then k (t8, true, true)
          else bif c == -1
           then k (t8, true, b == -9223372036854775808)
           else k (t8, true, false)
         else n
        else bif c == -1
         then k (t8, true, b == -9223372036854775808)
         else k (t8, true, false)
      else k (t8, true, false)
     else bif c == 0
      then k (0, false, false)
      else bif c == -1
       then bif a == 4
        then k (t1, true, b == -9223372036854775808)
        else k (0, true, false)
       else bif a == 4
        then bif !decide (c = 0)
         then k (t10, true, false)
         else n
        else bif !decide (c = 0)
         then k (b.tmod c, true, false)
         else n
def law_done.c {γ : Type} (n : γ) (k : Int × Bool × Bool → γ) (a : Int) (b : Int) (c : Int) : γ := let t1 := IntKind.i64.wrap (0 - b); let t2 := IntKind.i64.wrap (9223372036854775807 - c); let t3 := IntKind.i64.wrap (b + c); let t4 := IntKind.i64.wrap (-9223372036854775808 - c); let t5 := IntKind.i64.wrap (9223372036854775807 + c); let t6 := IntKind.i64.wrap (b - c); let t7 := IntKind.i64.wrap (-9223372036854775808 + c); let t8 := IntKind.i64.wrap (b * c); let t9 := IntKind.i64.wrap (t8.tdiv b); let t10 := IntKind.i64.wrap (b.tdiv c); law_done.c0 n k a b c t1 t2 t3 t4 t5 t6 t7 t8 t9 t10
def law_done.ok (a : Int) (b : Int) (c : Int) : Bool := law_done.c false (fun _ => true) a b c
def law_done (a : Int) (b : Int) (c : Int) : Int × Bool × Bool := law_done.c (0, false, false) id a b c
def law_done.F : FV := mkF (cP (cI .i64) (cP (cI .i64) (cP (cI .i64) cU))) (fun | (a, (b, (c, ()))) => law_done.ok a b c) (fun | (a, (b, (c, ()))) => .tuple #[.int .i64 (law_done a b c).1, .bool (law_done a b c).2.1, .bool (law_done a b c).2.2])
def L_law_done : TL := (34, law_done.F) :: L_law_inside
theorem law_done.p0 {γ : Type} (k : Int × Bool × Bool → γ) (a : Int) (b : Int) (c : Int) (t1 : Int) (t2 : Int) (t3 : Int) (t4 : Int) (t5 : Int) (t6 : Int) (t7 : Int) (t8 : Int) (t9 : Int) (t10 : Int) : law_done.c0 false (fun _ => true) a b c t1 t2 t3 t4 t5 t6 t7 t8 t9 t10 = true → law_done.c0 none (fun q => some (k q)) a b c t1 t2 t3 t4 t5 t6 t7 t8 t9 t10 = some (k (law_done.c0 (0, false, false) id a b c t1 t2 t3 t4 t5 t6 t7 t8 t9 t10)) := by
  unfold law_done.c0; (repeat' (first | (apply pn k) | (exact pn_none _ _) | (exact pn_leaf k _)))
theorem law_done.p {γ : Type} (k : Int × Bool × Bool → γ) (a : Int) (b : Int) (c : Int) (h : law_done.ok a b c = true) : law_done.c none (fun q => some (k q)) a b c = some (k (law_done a b c)) :=
  let t1 := IntKind.i64.wrap (0 - b); let t2 := IntKind.i64.wrap (9223372036854775807 - c); let t3 := IntKind.i64.wrap (b + c); let t4 := IntKind.i64.wrap (-9223372036854775808 - c); let t5 := IntKind.i64.wrap (9223372036854775807 + c); let t6 := IntKind.i64.wrap (b - c); let t7 := IntKind.i64.wrap (-9223372036854775808 + c); let t8 := IntKind.i64.wrap (b * c); let t9 := IntKind.i64.wrap (t8.tdiv b); let t10 := IntKind.i64.wrap (b.tdiv c); law_done.p0 k a b c t1 t2 t3 t4 t5 t6 t7 t8 t9 t10 h
theorem law_done.r (a : Int) (b : Int) (c : Int) : runF P G (tab L_law_inside) { merge := true } 60 Tryd.f34 [.int .i64 a, .int .i64 b, .int .i64 c] = law_done.c none (fun q => some (.tuple #[.int .i64 (q).1, .bool (q).2.1, .bool (q).2.2] : Value)) a b c := by kernel_rfl
theorem law_done.t : TabOK P G (tab L_law_done) :=
  TabOK_mk C law_inside.t Tryd.func34 (by kernel_rfl) true 60 (by
    rintro ⟨a, ⟨b, ⟨c, ⟨⟩⟩⟩⟩ h
    exact (law_done.r a b c).trans (law_done.p (fun q => (.tuple #[.int .i64 (q).1, .bool (q).2.1, .bool (q).2.2] : Value)) a b c h))

def law_asked.c0 {γ : Type} (k : Int × Int × Bool → γ) (a : Int) (b0 : Int) (b1 : Int) (c0 : Int) (c1 : Int) (t1 : Int × Int × Bool) (t2 : Int × Int × Bool) (t3 : Int × Int × Bool) (t4 : Int × Int × Bool) (t5 : Int × Int × Bool) (t6 : Int × Int × Bool) : γ := bif a == 0
  then k (t1.fst, t1.snd.fst, t1.snd.snd)
  else bif a == 1
   then k (t2.fst, t2.snd.fst, t2.snd.snd)
   else bif a == 2
    then k (t3.fst, t3.snd.fst, t3.snd.snd)
    else bif a == 3
     then k (t4.fst, t4.snd.fst, t4.snd.snd)
     else bif a == 4
      then k (t5.fst, t5.snd.fst, t5.snd.snd)
      else k (t6.fst, t6.snd.fst, t6.snd.snd)
def law_asked.c {γ : Type} (k : Int × Int × Bool → γ) (a : Int) (b0 : Int) (b1 : Int) (c0 : Int) (c1 : Int) : γ := let t1 := ival_Neg b0 b1; let t2 := ival_Add b0 b1 c0 c1; let t3 := ival_Sub b0 b1 c0 c1; let t4 := ival_Mul b0 b1 c0 c1; let t5 := ival_Div b0 b1 c0 c1; let t6 := ival_Rem b0 b1 c0 c1; law_asked.c0 k a b0 b1 c0 c1 t1 t2 t3 t4 t5 t6
def law_asked (a : Int) (b0 : Int) (b1 : Int) (c0 : Int) (c1 : Int) : Int × Int × Bool := law_asked.c id a b0 b1 c0 c1
def law_asked.F : FV := mkF (cP (cI .i64) (cP (cA (cP (cI .i64) (cP (cI .i64) cU))) (cP (cA (cP (cI .i64) (cP (cI .i64) cU))) cU))) (fun _ => true) (fun | (a, ((b0, (b1, ())), ((c0, (c1, ())), ()))) => .tuple #[.agg #[.int .i64 (law_asked a b0 b1 c0 c1).1, .int .i64 (law_asked a b0 b1 c0 c1).2.1], .bool (law_asked a b0 b1 c0 c1).2.2])
def L_law_asked : TL := (32, law_asked.F) :: L_law_done
theorem law_asked.p0 {γ : Type} (k : Int × Int × Bool → γ) (a : Int) (b0 : Int) (b1 : Int) (c0 : Int) (c1 : Int) (t1 : Int × Int × Bool) (t2 : Int × Int × Bool) (t3 : Int × Int × Bool) (t4 : Int × Int × Bool) (t5 : Int × Int × Bool) (t6 : Int × Int × Bool) : law_asked.c0 k a b0 b1 c0 c1 t1 t2 t3 t4 t5 t6 = k (law_asked.c0 id a b0 b1 c0 c1 t1 t2 t3 t4 t5 t6) := by
  unfold law_asked.c0; (repeat' (first | (apply pc k) | (exact rfl)))
theorem law_asked.p {γ : Type} (k : Int × Int × Bool → γ) (a : Int) (b0 : Int) (b1 : Int) (c0 : Int) (c1 : Int) : law_asked.c k a b0 b1 c0 c1 = k (law_asked a b0 b1 c0 c1) :=
  let t1 := ival_Neg b0 b1; let t2 := ival_Add b0 b1 c0 c1; let t3 := ival_Sub b0 b1 c0 c1; let t4 := ival_Mul b0 b1 c0 c1; let t5 := ival_Div b0 b1 c0 c1; let t6 := ival_Rem b0 b1 c0 c1; law_asked.p0 k a b0 b1 c0 c1 t1 t2 t3 t4 t5 t6
theorem law_asked.r (a : Int) (b0 : Int) (b1 : Int) (c0 : Int) (c1 : Int) : runF P G (tab L_law_done) { merge := true } 60 Tryd.f32 [.int .i64 a, .agg #[.int .i64 b0, .int .i64 b1], .agg #[.int .i64 c0, .int .i64 c1]] = law_asked.c (fun q => some (.tuple #[.agg #[.int .i64 (q).1, .int .i64 (q).2.1], .bool (q).2.2] : Value)) a b0 b1 c0 c1 := by kernel_rfl
theorem law_asked.t : TabOK P G (tab L_law_asked) :=
  TabOK_mk C law_done.t Tryd.func32 (by kernel_rfl) true 60 (by
    rintro ⟨a, ⟨⟨b0, ⟨b1, ⟨⟩⟩⟩, ⟨⟨c0, ⟨c1, ⟨⟩⟩⟩, ⟨⟩⟩⟩⟩ h
    exact (law_asked.r a b0 b1 c0 c1).trans (law_asked.p (fun q => some (.tuple #[.agg #[.int .i64 (q).1, .int .i64 (q).2.1], .bool (q).2.2] : Value)) a b0 b1 c0 c1))

def law_short.c0 {γ : Type} (k : Int × Int → γ) (a : Int) (b : Int) (t1 : Int) (t2 : Int) (t3 : Int) (t4 : Int) : γ := k (t3, t4)
def law_short.c {γ : Type} (k : Int × Int → γ) (a : Int) (b : Int) : γ := let t1 := law_mod b 7; let t2 := IntKind.i64.wrap (9223372036854775807 - t1); let t3 := bif decide (a > t2) then t2 else a; let t4 := IntKind.i64.wrap (t3 + t1); law_short.c0 k a b t1 t2 t3 t4
def law_short (a : Int) (b : Int) : Int × Int := law_short.c id a b
def law_short.F : FV := mkF (cP (cI .i64) (cP (cI .i64) cU)) (fun _ => true) (fun | (a, (b, ())) => .agg #[.int .i64 (law_short a b).1, .int .i64 (law_short a b).2])
def L_law_short : TL := (31, law_short.F) :: L_law_asked
theorem law_short.p0 {γ : Type} (k : Int × Int → γ) (a : Int) (b : Int) (t1 : Int) (t2 : Int) (t3 : Int) (t4 : Int) : law_short.c0 k a b t1 t2 t3 t4 = k (law_short.c0 id a b t1 t2 t3 t4) := by
  unfold law_short.c0; (repeat' (first | (apply pc k) | (exact rfl)))
theorem law_short.p {γ : Type} (k : Int × Int → γ) (a : Int) (b : Int) : law_short.c k a b = k (law_short a b) :=
  let t1 := law_mod b 7; let t2 := IntKind.i64.wrap (9223372036854775807 - t1); let t3 := bif decide (a > t2) then t2 else a; let t4 := IntKind.i64.wrap (t3 + t1); law_short.p0 k a b t1 t2 t3 t4
theorem law_short.r (a : Int) (b : Int) : runF P G (tab L_law_asked) { merge := true } 60 Tryd.f31 [.int .i64 a, .int .i64 b] = law_short.c (fun q => some (.agg #[.int .i64 (q).1, .int .i64 (q).2] : Value)) a b := by kernel_rfl
theorem law_short.t : TabOK P G (tab L_law_short) :=
  TabOK_mk C law_asked.t Tryd.func31 (by kernel_rfl) true 60 (by
    rintro ⟨a, ⟨b, ⟨⟩⟩⟩ h
    exact (law_short.r a b).trans (law_short.p (fun q => some (.agg #[.int .i64 (q).1, .int .i64 (q).2] : Value)) a b))

def law_IvalHolds.val (q : Bool) : Value := .bool (q)
def law_IvalHolds.h : List (Nat × List Nat × Nat) := [(5, [1, 3], 1), (13, [1, 6, 7, 8], 1)]
def law_IvalHolds.e0 (q : Int × Int × Int × Int × Int × Int × Int) : St := { tmps := [.unk, .ptr 0 0, .unk, .val (.int .i64 (q).1), .unk, .unk, .unk, .unk, .unk, .unk, .unk, .unk, .unk, .unk, .unk, .unk, .unk, .unk, .unk, .unk, .unk, .unk, .unk, .unk, .unk, .unk, .unk, .unk, .unk, .unk, .unk, .unk, .unk, .unk, .unk, .unk, .unk, .unk, .unk, .unk, .unk, .unk, .unk, .unk, .unk, .unk, .unk, .unk, .unk, .unk, .unk, .unk, .unk, .unk, .unk, .unk, .unk, .unk, .unk, .unk, .unk, .unk, .unk, .unk, .unk, .unk, .unk, .unk, .unk, .unk, .unk, .unk, .unk, .unk, .unk, .unk, .unk, .unk, .unk, .unk, .unk, .unk, .unk, .unk, .unk, .unk, .unk, .unk, .unk, .unk, .unk, .unk, .unk, .unk, .unk, .unk, .unk, .unk, .unk, .unk, .unk, .unk, .unk, .unk, .unk, .unk, .unk, .unk, .unk, .unk, .unk, .unk, .unk, .unk, .unk, .unk, .unk, .unk, .unk, .unk, .unk, .unk, .unk, .unk, .unk, .unk, .unk, .unk, .unk, .unk, .unk, .unk, .unk, .unk, .unk, .unk, .unk, .unk, .unk, .unk, .unk, .unk, .unk, .unk, .unk, .unk, .unk, .unk, .unk, .unk, .unk, .unk, .unk, .unk, .unk, .unk, .unk, .unk, .unk, .unk, .unk, .unk, .unk, .unk, .unk, .unk, .unk, .unk, .unk, .unk, .unk, .unk, .unk, .unk, .unk, .unk, .unk, .unk, .unk, .unk, .unk, .unk], blks := [some ⟨[.val (.int .i64 (q).2.1), .val (.int .i64 (q).2.2.1), .val (.int .i64 (q).2.2.2.1), .val (.int .i64 (q).2.2.2.2.1), .val (.int .i64 (q).2.2.2.2.2.1), .val (.int .i64 (q).2.2.2.2.2.2)], 43⟩], saved := [] }
noncomputable def law_IvalHolds.B0 : Code := loopAt [1, 1, 0, 1, 0, 0, 1, 0] (fbody Tryd.f7)
def law_IvalHolds.e1 (q : Int × Int × Int × Int × Int × Int × Int × Int × Int) : St := { tmps := [.unk, .ptr 0 0, .unk, .unk, .unk, .unk, .val (.int .i64 (q).1), .val (.int .i64 (q).2.1), .val (.int .i64 (q).2.2.1), .unk, .unk, .unk, .unk, .unk, .unk, .unk, .unk, .unk, .unk, .unk, .unk, .unk, .unk, .unk, .unk, .unk, .unk, .unk, .unk, .unk, .unk, .unk, .unk, .unk, .unk, .unk, .unk, .unk, .unk, .unk, .unk, .unk, .unk, .unk, .unk, .unk, .unk, .unk, .unk, .unk, .unk, .unk, .unk, .unk, .unk, .unk, .unk, .unk, .unk, .unk, .unk, .unk, .unk, .unk, .unk, .unk, .unk, .unk, .unk, .unk, .unk, .unk, .unk, .unk, .unk, .unk, .unk, .unk, .unk, .unk, .unk, .unk, .unk, .unk, .unk, .unk, .unk, .unk, .unk, .unk, .unk, .unk, .unk, .unk, .unk, .unk, .unk, .unk, .unk, .unk, .unk, .unk, .unk, .unk, .unk, .unk, .unk, .unk, .unk, .unk, .unk, .unk, .unk, .unk, .unk, .unk, .unk, .unk, .unk, .unk, .unk, .unk, .unk, .unk, .unk, .unk, .unk, .unk, .unk, .unk, .unk, .unk, .unk, .unk, .unk, .unk, .unk, .unk, .unk, .unk, .unk, .unk, .unk, .unk, .unk, .unk, .unk, .unk, .unk, .unk, .unk, .unk, .unk, .unk, .unk, .unk, .unk, .unk, .unk, .unk, .unk, .unk, .unk, .unk, .unk, .unk, .unk, .unk, .unk, .unk, .unk, .unk, .unk, .unk, .unk, .unk, .unk, .unk, .unk, .unk, .unk, .unk], blks := [some ⟨[.val (.int .i64 (q).2.2.2.1), .val (.int .i64 (q).2.2.2.2.1), .val (.int .i64 (q).2.2.2.2.2.1), .val (.int .i64 (q).2.2.2.2.2.2.1), .val (.int .i64 (q).2.2.2.2.2.2.2.1), .val (.int .i64 (q).2.2.2.2.2.2.2.2)], 43⟩], saved := [] }
noncomputable def law_IvalHolds.B1 : Code := loopAt [1, 1, 1, 1, 0, 1, 0] (fbody Tryd.f7)
noncomputable def law_IvalHolds.H (F0 F1 : LSum) : Heads := { heads := law_IvalHolds.h, merge := true, sums := [(5, F0), (13, F1)] }
noncomputable def law_IvalHolds.H0  : Heads := { heads := law_IvalHolds.h, merge := true, sums := [] }
noncomputable def law_IvalHolds.H1  : Heads := { heads := law_IvalHolds.h, merge := true, sums := [] }
noncomputable def law_IvalHolds.K0 (F0 F1 : LSum) : Xt → St → Option Value := kAt P G (tab L_law_short) (law_IvalHolds.H F0 F1) [1, 1, 0, 1, 0, 0, 1, 0] 60 (fbody Tryd.f7) (retK P G Tryd.f7)
noncomputable def law_IvalHolds.K1 (F0 F1 : LSum) : Xt → St → Option Value := kAt P G (tab L_law_short) (law_IvalHolds.H F0 F1) [1, 1, 1, 1, 0, 1, 0] 60 (fbody Tryd.f7) (retK P G Tryd.f7)
def law_IvalHolds.l0.c0 {γ : Type} (k0 : Int × Int × Int × Int × Int × Int × Int → Option γ) (k : Bool → Option γ) (s3 : Int) (b0_0 : Int) (b0_1 : Int) (b0_2 : Int) (b0_3 : Int) (b0_4 : Int) (b0_5 : Int) (t1 : Int × Int × Bool) (t2 : Int) : Option γ := bif decide (s3 < 6)
  then bif decide (s3 > 0)
   then bif !(t1.fst == 1 && (t1.snd.fst == 0 && true))
    then k (false)
    else bif !t1.snd.snd
     then k (false)
     else k0 (t2, b0_0, b0_1, b0_2, b0_3, b0_4, b0_5)
   else bif decide (b0_0 > b0_1)
    then bif !(t1.fst == 1 && (t1.snd.fst == 0 && true))
     then k (false)
     else bif !t1.snd.snd
      then k (false)
      else k0 (t2, b0_0, b0_1, b0_2, b0_3, b0_4, b0_5)
    else k0 (t2, b0_0, b0_1, b0_2, b0_3, b0_4, b0_5)
  else k (true)
def law_IvalHolds.l0.c {γ : Type} (k0 : Int × Int × Int × Int × Int × Int × Int → Option γ) (k : Bool → Option γ) (s3 : Int) (b0_0 : Int) (b0_1 : Int) (b0_2 : Int) (b0_3 : Int) (b0_4 : Int) (b0_5 : Int) : Option γ := let t1 := law_asked s3 b0_0 b0_1 b0_2 b0_3; let t2 := IntKind.i64.wrap (s3 + 1); law_IvalHolds.l0.c0 k0 k s3 b0_0 b0_1 b0_2 b0_3 b0_4 b0_5 t1 t2
def law_IvalHolds.l1.c0 {γ : Type} (k1 : Int × Int × Int × Int × Int × Int × Int × Int × Int → Option γ) (k : Bool → Option γ) (s6 : Int) (s7 : Int) (s8 : Int) (b0_0 : Int) (b0_1 : Int) (b0_2 : Int) (b0_3 : Int) (b0_4 : Int) (b0_5 : Int) (t1 : Bool) (t2 : Int × Bool × Bool) (t3 : Int × Int × Bool) (t4 : Bool) (t5 : Int) (t6 : Bool) (t7 : Int × Int) (t8 : Bool) (t9 : Bool) (t10 : Int × Int) (t11 : Bool) (t12 : Bool) (t13 : Bool) (t14 : Bool) (t15 : Bool) (t16 : Bool) (t17 : Bool) : Option γ := bif decide (s8 < 6)
  then bif t1
   then bif t2.snd.fst
    then bif !t4
     then k (false)
     else bif t3.snd.snd
      then bif t2.snd.snd
       then k (false)
       else k1 (s6, s7, t5, b0_0, b0_1, b0_2, b0_3, b0_4, b0_5)
      else k1 (s6, s7, t5, b0_0, b0_1, b0_2, b0_3, b0_4, b0_5)
    else k1 (s6, s7, t5, b0_0, b0_1, b0_2, b0_3, b0_4, b0_5)
   else none
  else bif !t6
   then k (false)
   else bif !t8
    then k (false)
    else bif !t9
     then k (false)
     else bif !t11 == t12
      then k (false)
      else bif !t13 == t14
       then k (false)
       else bif t15
        then bif t16
         then bif !t17
          then k (true)
          else k (t12)
         else k (false)
        else k (false)
def law_IvalHolds.l1.c {γ : Type} (k1 : Int × Int × Int × Int × Int × Int × Int × Int × Int → Option γ) (k : Bool → Option γ) (s6 : Int) (s7 : Int) (s8 : Int) (b0_0 : Int) (b0_1 : Int) (b0_2 : Int) (b0_3 : Int) (b0_4 : Int) (b0_5 : Int) : Option γ := let t1 := law_done.ok s8 s6 s7; let t2 := law_done s8 s6 s7; let t3 := law_asked s8 b0_0 b0_1 b0_2 b0_3; let t4 := ival_Has t3.fst t3.snd.fst t2.fst; let t5 := IntKind.i64.wrap (s8 + 1); let t6 := ival_Has b0_0 b0_1 s6; let t7 := ival_Join b0_0 b0_1 b0_2 b0_3; let t8 := ival_Has t7.fst t7.snd s6; let t9 := ival_Has t7.fst t7.snd s7; let t10 := ival_Meet b0_0 b0_1 b0_2 b0_3; let t11 := ival_Has t10.fst t10.snd s6; let t12 := ival_Has b0_2 b0_3 s6; let t13 := ival_Has t10.fst t10.snd s7; let t14 := ival_Has b0_0 b0_1 s7; let t15 := ival_Leq b0_0 b0_1 t7.fst t7.snd; let t16 := ival_Leq t10.fst t10.snd b0_2 b0_3; let t17 := ival_Leq b0_0 b0_1 b0_2 b0_3; law_IvalHolds.l1.c0 k1 k s6 s7 s8 b0_0 b0_1 b0_2 b0_3 b0_4 b0_5 t1 t2 t3 t4 t5 t6 t7 t8 t9 t10 t11 t12 t13 t14 t15 t16 t17
def law_IvalHolds.c0 {γ : Type} (k0 : Int × Int × Int × Int × Int × Int × Int → Option γ) (k1 : Int × Int × Int × Int × Int × Int × Int × Int × Int → Option γ) (k : Bool → Option γ) (p00 : Int) (p01 : Int) (p10 : Int) (p11 : Int) (p2 : Int) (p3 : Int) (t1 : Bool) (t2 : Bool) (t3 : Int) (t4 : Int) : Option γ := bif decide (p00 > p01)
  then k0 (0, p00, p01, p10, p11, p2, p3)
  else bif decide (p10 > p11)
   then k0 (0, p00, p01, p10, p11, p2, p3)
   else bif t1
    then bif t2
     then k1 (t3, t4, 0, p00, p01, p10, p11, p2, p3)
     else none
    else none
def law_IvalHolds.c {γ : Type} (k0 : Int × Int × Int × Int × Int × Int × Int → Option γ) (k1 : Int × Int × Int × Int × Int × Int × Int × Int × Int → Option γ) (k : Bool → Option γ) (p00 : Int) (p01 : Int) (p10 : Int) (p11 : Int) (p2 : Int) (p3 : Int) : Option γ := let t1 := law_inside.ok p00 p01 p2; let t2 := law_inside.ok p10 p11 p3; let t3 := law_inside p00 p01 p2; let t4 := law_inside p10 p11 p3; law_IvalHolds.c0 k0 k1 k p00 p01 p10 p11 p2 p3 t1 t2 t3 t4
def law_IvalHolds.L1 (N : Nat)  : Nat → Int × Int × Int × Int × Int × Int × Int × Int × Int → Option (Bool)
  | 0, _ => none
  | m + 1, q => law_IvalHolds.l1.c (law_IvalHolds.L1 N m) some (q).1 (q).2.1 (q).2.2.1 (q).2.2.2.1 (q).2.2.2.2.1 (q).2.2.2.2.2.1 (q).2.2.2.2.2.2.1 (q).2.2.2.2.2.2.2.1 (q).2.2.2.2.2.2.2.2
def law_IvalHolds.L0 (N : Nat)  : Nat → Int × Int × Int × Int × Int × Int × Int → Option (Bool)
  | 0, _ => none
  | m + 1, q => law_IvalHolds.l0.c (law_IvalHolds.L0 N m) some (q).1 (q).2.1 (q).2.2.1 (q).2.2.2.1 (q).2.2.2.2.1 (q).2.2.2.2.2.1 (q).2.2.2.2.2.2
def law_IvalHolds.o (N : Nat) (p00 : Int) (p01 : Int) (p10 : Int) (p11 : Int) (p2 : Int) (p3 : Int) : Option (Bool) := law_IvalHolds.c (law_IvalHolds.L0 N  N) (law_IvalHolds.L1 N  N) some p00 p01 p10 p11 p2 p3
noncomputable def law_IvalHolds.S1 (N : Nat) : LSum := sumN P G (tab L_law_short) (law_IvalHolds.H1 ) 60 law_IvalHolds.B1 N
noncomputable def law_IvalHolds.S0 (N : Nat) : LSum := sumN P G (tab L_law_short) (law_IvalHolds.H0 ) 60 law_IvalHolds.B0 N
theorem law_IvalHolds.l0.p0 {γ δ : Type} (f : γ → δ) (k0 : Int × Int × Int × Int × Int × Int × Int → Option γ) (k : Bool → Option γ) (s3 : Int) (b0_0 : Int) (b0_1 : Int) (b0_2 : Int) (b0_3 : Int) (b0_4 : Int) (b0_5 : Int) (t1 : Int × Int × Bool) (t2 : Int) : law_IvalHolds.l0.c0 (fun q => (k0 q).map f) (fun q => (k q).map f) s3 b0_0 b0_1 b0_2 b0_3 b0_4 b0_5 t1 t2 = (law_IvalHolds.l0.c0 k0 k s3 b0_0 b0_1 b0_2 b0_3 b0_4 b0_5 t1 t2).map f := by
  unfold law_IvalHolds.l0.c0; (repeat' (first | (apply pm f) | (exact rfl)))
theorem law_IvalHolds.l0.p {γ δ : Type} (f : γ → δ) (k0 : Int × Int × Int × Int × Int × Int × Int → Option γ) (k : Bool → Option γ) (s3 : Int) (b0_0 : Int) (b0_1 : Int) (b0_2 : Int) (b0_3 : Int) (b0_4 : Int) (b0_5 : Int) : law_IvalHolds.l0.c (fun q => (k0 q).map f) (fun q => (k q).map f) s3 b0_0 b0_1 b0_2 b0_3 b0_4 b0_5 = (law_IvalHolds.l0.c k0 k s3 b0_0 b0_1 b0_2 b0_3 b0_4 b0_5).map f :=
  let t1 := law_asked s3 b0_0 b0_1 b0_2 b0_3; let t2 := IntKind.i64.wrap (s3 + 1); law_IvalHolds.l0.p0 f k0 k s3 b0_0 b0_1 b0_2 b0_3 b0_4 b0_5 t1 t2
theorem law_IvalHolds.l1.p0 {γ δ : Type} (f : γ → δ) (k1 : Int × Int × Int × Int × Int × Int × Int × Int × Int → Option γ) (k : Bool → Option γ) (s6 : Int) (s7 : Int) (s8 : Int) (b0_0 : Int) (b0_1 : Int) (b0_2 : Int) (b0_3 : Int) (b0_4 : Int) (b0_5 : Int) (t1 : Bool) (t2 : Int × Bool × Bool) (t3 : Int × Int × Bool) (t4 : Bool) (t5 : Int) (t6 : Bool) (t7 : Int × Int) (t8 : Bool) (t9 : Bool) (t10 : Int × Int) (t11 : Bool) (t12 : Bool) (t13 : Bool) (t14 : Bool) (t15 : Bool) (t16 : Bool) (t17 : Bool) : law_IvalHolds.l1.c0 (fun q => (k1 q).map f) (fun q => (k q).map f) s6 s7 s8 b0_0 b0_1 b0_2 b0_3 b0_4 b0_5 t1 t2 t3 t4 t5 t6 t7 t8 t9 t10 t11 t12 t13 t14 t15 t16 t17 = (law_IvalHolds.l1.c0 k1 k s6 s7 s8 b0_0 b0_1 b0_2 b0_3 b0_4 b0_5 t1 t2 t3 t4 t5 t6 t7 t8 t9 t10 t11 t12 t13 t14 t15 t16 t17).map f := by
  unfold law_IvalHolds.l1.c0; (repeat' (first | (apply pm f) | (exact rfl)))
theorem law_IvalHolds.l1.p {γ δ : Type} (f : γ → δ) (k1 : Int × Int × Int × Int × Int × Int × Int × Int × Int → Option γ) (k : Bool → Option γ) (s6 : Int) (s7 : Int) (s8 : Int) (b0_0 : Int) (b0_1 : Int) (b0_2 : Int) (b0_3 : Int) (b0_4 : Int) (b0_5 : Int) : law_IvalHolds.l1.c (fun q => (k1 q).map f) (fun q => (k q).map f) s6 s7 s8 b0_0 b0_1 b0_2 b0_3 b0_4 b0_5 = (law_IvalHolds.l1.c k1 k s6 s7 s8 b0_0 b0_1 b0_2 b0_3 b0_4 b0_5).map f :=
  let t1 := law_done.ok s8 s6 s7; let t2 := law_done s8 s6 s7; let t3 := law_asked s8 b0_0 b0_1 b0_2 b0_3; let t4 := ival_Has t3.fst t3.snd.fst t2.fst; let t5 := IntKind.i64.wrap (s8 + 1); let t6 := ival_Has b0_0 b0_1 s6; let t7 := ival_Join b0_0 b0_1 b0_2 b0_3; let t8 := ival_Has t7.fst t7.snd s6; let t9 := ival_Has t7.fst t7.snd s7; let t10 := ival_Meet b0_0 b0_1 b0_2 b0_3; let t11 := ival_Has t10.fst t10.snd s6; let t12 := ival_Has b0_2 b0_3 s6; let t13 := ival_Has t10.fst t10.snd s7; let t14 := ival_Has b0_0 b0_1 s7; let t15 := ival_Leq b0_0 b0_1 t7.fst t7.snd; let t16 := ival_Leq t10.fst t10.snd b0_2 b0_3; let t17 := ival_Leq b0_0 b0_1 b0_2 b0_3; law_IvalHolds.l1.p0 f k1 k s6 s7 s8 b0_0 b0_1 b0_2 b0_3 b0_4 b0_5 t1 t2 t3 t4 t5 t6 t7 t8 t9 t10 t11 t12 t13 t14 t15 t16 t17
theorem law_IvalHolds.p0 {γ δ : Type} (f : γ → δ) (k0 : Int × Int × Int × Int × Int × Int × Int → Option γ) (k1 : Int × Int × Int × Int × Int × Int × Int × Int × Int → Option γ) (k : Bool → Option γ) (p00 : Int) (p01 : Int) (p10 : Int) (p11 : Int) (p2 : Int) (p3 : Int) (t1 : Bool) (t2 : Bool) (t3 : Int) (t4 : Int) : law_IvalHolds.c0 (fun q => (k0 q).map f) (fun q => (k1 q).map f) (fun q => (k q).map f) p00 p01 p10 p11 p2 p3 t1 t2 t3 t4 = (law_IvalHolds.c0 k0 k1 k p00 p01 p10 p11 p2 p3 t1 t2 t3 t4).map f := by
  unfold law_IvalHolds.c0; (repeat' (first | (apply pm f) | (exact rfl)))
theorem law_IvalHolds.p {γ δ : Type} (f : γ → δ) (k0 : Int × Int × Int × Int × Int × Int × Int → Option γ) (k1 : Int × Int × Int × Int × Int × Int × Int × Int × Int → Option γ) (k : Bool → Option γ) (p00 : Int) (p01 : Int) (p10 : Int) (p11 : Int) (p2 : Int) (p3 : Int) : law_IvalHolds.c (fun q => (k0 q).map f) (fun q => (k1 q).map f) (fun q => (k q).map f) p00 p01 p10 p11 p2 p3 = (law_IvalHolds.c k0 k1 k p00 p01 p10 p11 p2 p3).map f :=
  let t1 := law_inside.ok p00 p01 p2; let t2 := law_inside.ok p10 p11 p3; let t3 := law_inside p00 p01 p2; let t4 := law_inside p10 p11 p3; law_IvalHolds.p0 f k0 k1 k p00 p01 p10 p11 p2 p3 t1 t2 t3 t4
theorem law_IvalHolds.S1.ok (N : Nat) : LoopsOK P G (law_IvalHolds.H1 ).sums law_IvalHolds.B1 := by
  refine LoopsOK_code fun i hi F hF => ?_
  have hlen : (loopsOf law_IvalHolds.B1).length = 0 := by kernel_rfl
  rw [hlen] at hi
  omega

theorem law_IvalHolds.S1.snd (N : Nat) : SoundL P G law_IvalHolds.B1 (law_IvalHolds.S1 N) := sumN_sound C.mixed C.names law_short.t (law_IvalHolds.S1.ok N) N
theorem law_IvalHolds.S0.ok (N : Nat) : LoopsOK P G (law_IvalHolds.H0 ).sums law_IvalHolds.B0 := by
  refine LoopsOK_code fun i hi F hF => ?_
  have hlen : (loopsOf law_IvalHolds.B0).length = 0 := by kernel_rfl
  rw [hlen] at hi
  omega

theorem law_IvalHolds.S0.snd (N : Nat) : SoundL P G law_IvalHolds.B0 (law_IvalHolds.S0 N) := sumN_sound C.mixed C.names law_short.t (law_IvalHolds.S0.ok N) N
theorem law_IvalHolds.l0.r (F0 F1 G0 G1 : LSum) (s3 : Int) (b0_0 : Int) (b0_1 : Int) (b0_2 : Int) (b0_3 : Int) (b0_4 : Int) (b0_5 : Int) : ex P G (tab L_law_short) (law_IvalHolds.H0 ) 60 law_IvalHolds.B0 (law_IvalHolds.e0 (s3, b0_0, b0_1, b0_2, b0_3, b0_4, b0_5)) (roundK (law_IvalHolds.H0 ) law_IvalHolds.B0 G0 (law_IvalHolds.K0 F0 F1)) = law_IvalHolds.l0.c (fun q => G0.run (law_IvalHolds.e0 q) (law_IvalHolds.K0 F0 F1)) (fun q => some (law_IvalHolds.val q)) s3 b0_0 b0_1 b0_2 b0_3 b0_4 b0_5 := by kernel_rfl
theorem law_IvalHolds.l1.r (F0 F1 G0 G1 : LSum) (s6 : Int) (s7 : Int) (s8 : Int) (b0_0 : Int) (b0_1 : Int) (b0_2 : Int) (b0_3 : Int) (b0_4 : Int) (b0_5 : Int) : ex P G (tab L_law_short) (law_IvalHolds.H1 ) 60 law_IvalHolds.B1 (law_IvalHolds.e1 (s6, s7, s8, b0_0, b0_1, b0_2, b0_3, b0_4, b0_5)) (roundK (law_IvalHolds.H1 ) law_IvalHolds.B1 G1 (law_IvalHolds.K1 F0 F1)) = law_IvalHolds.l1.c (fun q => G1.run (law_IvalHolds.e1 q) (law_IvalHolds.K1 F0 F1)) (fun q => some (law_IvalHolds.val q)) s6 s7 s8 b0_0 b0_1 b0_2 b0_3 b0_4 b0_5 := by kernel_rfl
theorem law_IvalHolds.r (F0 F1 : LSum) (p00 : Int) (p01 : Int) (p10 : Int) (p11 : Int) (p2 : Int) (p3 : Int) : runF P G (tab L_law_short) (law_IvalHolds.H F0 F1) 60 Tryd.f7 [.agg #[.int .i64 p00, .int .i64 p01, .int .i64 p10, .int .i64 p11, .int .i64 p2, .int .i64 p3]] = law_IvalHolds.c (fun q => F0.run (law_IvalHolds.e0 q) (law_IvalHolds.K0 F0 F1)) (fun q => F1.run (law_IvalHolds.e1 q) (law_IvalHolds.K1 F0 F1)) (fun q => some (law_IvalHolds.val q)) p00 p01 p10 p11 p2 p3 := by kernel_rfl
theorem law_IvalHolds.L1.ok (N : Nat) (F0 F1 : LSum)   : ∀ m q, (sumN P G (tab L_law_short) (law_IvalHolds.H1 ) 60 law_IvalHolds.B1 m).run (law_IvalHolds.e1 q) (law_IvalHolds.K1 F0 F1) = (law_IvalHolds.L1 N  m q).map law_IvalHolds.val
  | 0, q => rfl
  | m + 1, q => by
    have ih := law_IvalHolds.L1.ok N F0 F1   m
    refine (sumN_run (n := m) rfl).trans ((law_IvalHolds.l1.r F0 F1 noSum (sumN P G (tab L_law_short) (law_IvalHolds.H1 ) 60 law_IvalHolds.B1 m) (q).1 (q).2.1 (q).2.2.1 (q).2.2.2.1 (q).2.2.2.2.1 (q).2.2.2.2.2.1 (q).2.2.2.2.2.2.1 (q).2.2.2.2.2.2.2.1 (q).2.2.2.2.2.2.2.2).trans ?_)
    refine Eq.trans ?_ (law_IvalHolds.l1.p law_IvalHolds.val (law_IvalHolds.L1 N m) some (q).1 (q).2.1 (q).2.2.1 (q).2.2.2.1 (q).2.2.2.2.1 (q).2.2.2.2.2.1 (q).2.2.2.2.2.2.1 (q).2.2.2.2.2.2.2.1 (q).2.2.2.2.2.2.2.2)
    have e1 : (fun q => (sumN P G (tab L_law_short) (law_IvalHolds.H1 ) 60 law_IvalHolds.B1 m).run (law_IvalHolds.e1 q) (law_IvalHolds.K1 F0 F1)) = (fun q => ((law_IvalHolds.L1 N m) q).map law_IvalHolds.val) := funext ih
    rw [e1]; rfl

theorem law_IvalHolds.L0.ok (N : Nat) (F0 F1 : LSum)   : ∀ m q, (sumN P G (tab L_law_short) (law_IvalHolds.H0 ) 60 law_IvalHolds.B0 m).run (law_IvalHolds.e0 q) (law_IvalHolds.K0 F0 F1) = (law_IvalHolds.L0 N  m q).map law_IvalHolds.val
  | 0, q => rfl
  | m + 1, q => by
    have ih := law_IvalHolds.L0.ok N F0 F1   m
    refine (sumN_run (n := m) rfl).trans ((law_IvalHolds.l0.r F0 F1 (sumN P G (tab L_law_short) (law_IvalHolds.H0 ) 60 law_IvalHolds.B0 m) noSum (q).1 (q).2.1 (q).2.2.1 (q).2.2.2.1 (q).2.2.2.2.1 (q).2.2.2.2.2.1 (q).2.2.2.2.2.2).trans ?_)
    refine Eq.trans ?_ (law_IvalHolds.l0.p law_IvalHolds.val (law_IvalHolds.L0 N m) some (q).1 (q).2.1 (q).2.2.1 (q).2.2.2.1 (q).2.2.2.2.1 (q).2.2.2.2.2.1 (q).2.2.2.2.2.2)
    have e0 : (fun q => (sumN P G (tab L_law_short) (law_IvalHolds.H0 ) 60 law_IvalHolds.B0 m).run (law_IvalHolds.e0 q) (law_IvalHolds.K0 F0 F1)) = (fun q => ((law_IvalHolds.L0 N m) q).map law_IvalHolds.val) := funext ih
    rw [e0]; rfl

theorem law_IvalHolds.q (N : Nat) (p00 : Int) (p01 : Int) (p10 : Int) (p11 : Int) (p2 : Int) (p3 : Int) : runF P G (tab L_law_short) (law_IvalHolds.H (law_IvalHolds.S0 N) (law_IvalHolds.S1 N)) 60 Tryd.f7 [.agg #[.int .i64 p00, .int .i64 p01, .int .i64 p10, .int .i64 p11, .int .i64 p2, .int .i64 p3]] = (law_IvalHolds.o N p00 p01 p10 p11 p2 p3).map law_IvalHolds.val := by
  have hk1 := law_IvalHolds.L1.ok N (law_IvalHolds.S0 N) (law_IvalHolds.S1 N)   N
  have hk0 := law_IvalHolds.L0.ok N (law_IvalHolds.S0 N) (law_IvalHolds.S1 N)   N
  refine (law_IvalHolds.r (law_IvalHolds.S0 N) (law_IvalHolds.S1 N) p00 p01 p10 p11 p2 p3).trans ?_
  refine Eq.trans ?_ (law_IvalHolds.p law_IvalHolds.val (law_IvalHolds.L0 N  N) (law_IvalHolds.L1 N  N) some p00 p01 p10 p11 p2 p3)
  have e0 : (fun q => (law_IvalHolds.S0 N).run (law_IvalHolds.e0 q) (law_IvalHolds.K0 (law_IvalHolds.S0 N) (law_IvalHolds.S1 N))) = (fun q => ((law_IvalHolds.L0 N  N) q).map law_IvalHolds.val) := funext hk0
  have e1 : (fun q => (law_IvalHolds.S1 N).run (law_IvalHolds.e1 q) (law_IvalHolds.K1 (law_IvalHolds.S0 N) (law_IvalHolds.S1 N))) = (fun q => ((law_IvalHolds.L1 N  N) q).map law_IvalHolds.val) := funext hk1
  rw [e0, e1]; rfl

theorem law_IvalHolds.lok (N : Nat) : LoopsOK P G (law_IvalHolds.H (law_IvalHolds.S0 N) (law_IvalHolds.S1 N)).sums (fbody Tryd.f7) := by
  refine LoopsOK_code fun i hi F hF => ?_
  have hlen : (loopsOf (fbody Tryd.f7)).length = 2 := by kernel_rfl
  rw [hlen] at hi
  match i, hi with
  | 0, _ => exact soundAt (B' := law_IvalHolds.B0) (by kernel_rfl) (by kernel_rfl) (law_IvalHolds.S0.snd N) hF
  | 1, _ => exact soundAt (B' := law_IvalHolds.B1) (by kernel_rfl) (by kernel_rfl) (law_IvalHolds.S1.snd N) hF
  | _ + 2, h => omega

def law_IvalHolds (p00 : Int) (p01 : Int) (p10 : Int) (p11 : Int) (p2 : Int) (p3 : Int) : Bool := (law_IvalHolds.o (8) p00 p01 p10 p11 p2 p3).getD (false)
def law_IvalHolds.g (p00 : Int) (p01 : Int) (p10 : Int) (p11 : Int) (p2 : Int) (p3 : Int) : Bool := (law_IvalHolds.o (8) p00 p01 p10 p11 p2 p3).isSome
theorem law_IvalHolds.s (p00 : Int) (p01 : Int) (p10 : Int) (p11 : Int) (p2 : Int) (p3 : Int) (h : law_IvalHolds.g p00 p01 p10 p11 p2 p3 = true) : law_IvalHolds.o (8) p00 p01 p10 p11 p2 p3 = some (law_IvalHolds p00 p01 p10 p11 p2 p3) := by
  unfold law_IvalHolds.g at h; unfold law_IvalHolds; revert h; cases law_IvalHolds.o (8) p00 p01 p10 p11 p2 p3 <;> simp
def law_IvalHolds.F : FV := mkF (cP (cA (cP (cI .i64) (cP (cI .i64) (cP (cI .i64) (cP (cI .i64) (cP (cI .i64) (cP (cI .i64) cU))))))) cU) (fun | ((p00, (p01, (p10, (p11, (p2, (p3, ())))))), ()) => law_IvalHolds.g p00 p01 p10 p11 p2 p3) (fun | ((p00, (p01, (p10, (p11, (p2, (p3, ())))))), ()) => law_IvalHolds.val (law_IvalHolds p00 p01 p10 p11 p2 p3))
def L_law_IvalHolds : TL := (7, law_IvalHolds.F) :: L_law_short
theorem law_IvalHolds.t : TabOK P G (tab L_law_IvalHolds) :=
  TabOK_mkH C law_short.t Tryd.func7 (by kernel_rfl) (fun | ((_, (_, (_, (_, (_, (_, ())))))), ()) => law_IvalHolds.H (law_IvalHolds.S0 (8)) (law_IvalHolds.S1 (8))) (by rintro ⟨⟨p00, ⟨p01, ⟨p10, ⟨p11, ⟨p2, ⟨p3, ⟨⟩⟩⟩⟩⟩⟩⟩, ⟨⟩⟩; exact law_IvalHolds.lok _) 60 (by
    rintro ⟨⟨p00, ⟨p01, ⟨p10, ⟨p11, ⟨p2, ⟨p3, ⟨⟩⟩⟩⟩⟩⟩⟩, ⟨⟩⟩ h
    exact (law_IvalHolds.q (8) p00 p01 p10 p11 p2 p3).trans (congrArg (Option.map law_IvalHolds.val) (law_IvalHolds.s p00 p01 p10 p11 p2 p3 h)))

end Go.Proofs.YtbbplkdjcgdaaaaDoor.V
