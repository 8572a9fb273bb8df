/- What the functions of this seat compute, told by evaluation of their code. Conditions: none. -/
import Derived.Test.YtonpbbhlmapbdaaGreatDoorE2
set_option linter.unusedVariables false
set_option linter.unusedSimpArgs false
namespace Go.Proofs.YtonpbbhlmapbdaaGreatDoor.V
open Go Go.Wk
noncomputable section

def A.ival_Div.c0 {γ : Type} (k : Int × Int × Bool → γ) (a0 : Int) (a1 : Int) (b0 : Int) (b1 : Int) (t1 : Bool) (t2 : Bool) (t3 : Bool) (t4 : Bool) (t5 : Int × Int) (t6 : Bool) (t7 : Int × Int) (t8 : Bool) (t9 : Int × Int) (t10 : Int × Int) (t11 : Int × Int) (t12 : Int × Int) (t13 : Int × Int) (t14 : Int × Int) (t15 : Int × Int) (t16 : Int × Int) (t17 : Int × Int) (t18 : Int × Int) (t19 : Int × Int) (t20 : Int × Int) (t21 : Int × Int) (t22 : Int × Int) (t23 : Int × Int) (t24 : Int × Int) (t25 : Int × Int) (t26 : Int × Int) (t27 : Int × Int) (t28 : Int × Int) : γ := bif t1
  then k (1, 0, true)
  else bif t2
   then k (1, 0, true)
   else bif t3
    then bif t4
     then bif t6
      then bif t4
       then bif t8
        then k (t20.fst, t20.snd, !t4)
        else k (t22.fst, t22.snd, !t4)
       else k (t22.fst, t22.snd, !t4)
      else bif t4
       then bif t8
        then k (t27.fst, t27.snd, !t4)
        else k (t28.fst, t28.snd, !t4)
       else k (t28.fst, t28.snd, !t4)
     else bif t4
      then bif t8
       then k (t27.fst, t27.snd, !t4)
       else k (t28.fst, t28.snd, !t4)
      else k (t28.fst, t28.snd, !t4)
    else k (t28.fst, t28.snd, !false)
def A.ival_Div.c {γ : Type} (k : Int × Int × Bool → γ) (a0 : Int) (a1 : Int) (b0 : Int) (b1 : Int) : γ := let t1 := A.ival_none a0 a1; let t2 := A.ival_none b0 b1; let t3 := A.ival_Has a0 a1 (-9223372036854775808); let t4 := A.ival_Has b0 b1 (-1); let t5 := A.ival_under b0 b1; let t6 := A.ival_Has t5.fst t5.snd (-1); let t7 := A.ival_over b0 b1; let t8 := A.ival_Has t7.fst t7.snd (-1); let t9 := A.ival_Join 1 0 (-9223372036854775808) (-9223372036854775808); let t10 := A.ival_Meet a0 a1 (-9223372036854775807) 9223372036854775807; let t11 := A.ival_cornersQ t10.fst t10.snd (-1) (-1); let t12 := A.ival_Join t9.fst t9.snd t11.fst t11.snd; let t13 := A.ival_Meet t5.fst t5.snd (-9223372036854775808) (-2); let t14 := A.ival_cornersQ a0 a1 t13.fst t13.snd; let t15 := A.ival_Join t12.fst t12.snd t14.fst t14.snd; let t16 := A.ival_Join t15.fst t15.snd (-9223372036854775808) (-9223372036854775808); let t17 := A.ival_Join t16.fst t16.snd t11.fst t11.snd; let t18 := A.ival_Meet t7.fst t7.snd (-9223372036854775808) (-2); let t19 := A.ival_cornersQ a0 a1 t18.fst t18.snd; let t20 := A.ival_Join t17.fst t17.snd t19.fst t19.snd; let t21 := A.ival_cornersQ a0 a1 t7.fst t7.snd; let t22 := A.ival_Join t15.fst t15.snd t21.fst t21.snd; let t23 := A.ival_cornersQ a0 a1 t5.fst t5.snd; let t24 := A.ival_Join 1 0 t23.fst t23.snd; let t25 := A.ival_Join t24.fst t24.snd (-9223372036854775808) (-9223372036854775808); let t26 := A.ival_Join t25.fst t25.snd t11.fst t11.snd; let t27 := A.ival_Join t26.fst t26.snd t19.fst t19.snd; let t28 := A.ival_Join t24.fst t24.snd t21.fst t21.snd; A.ival_Div.c0 k a0 a1 b0 b1 t1 t2 t3 t4 t5 t6 t7 t8 t9 t10 t11 t12 t13 t14 t15 t16 t17 t18 t19 t20 t21 t22 t23 t24 t25 t26 t27 t28
def A.ival_Div (a0 : Int) (a1 : Int) (b0 : Int) (b1 : Int) : Int × Int × Bool := A.ival_Div.c id a0 a1 b0 b1
def A.ival_Div.F : FV := mkF (cP (cA (cP (cI .i64) (cP (cI .i64) cU))) (cP (cA (cP (cI .i64) (cP (cI .i64) cU))) cU)) (fun _ => true) (fun | ((a0, (a1, ())), ((b0, (b1, ())), ())) => .tuple #[.agg #[.int .i64 (A.ival_Div a0 a1 b0 b1).1, .int .i64 (A.ival_Div a0 a1 b0 b1).2.1], .bool (A.ival_Div a0 a1 b0 b1).2.2])
def L_A.ival_Div : TL := (124, A.ival_Div.F) :: L_A.ival_cornersQ
theorem A.ival_Div.p0 {γ : Type} (k : Int × Int × Bool → γ) (a0 : Int) (a1 : Int) (b0 : Int) (b1 : Int) (t1 : Bool) (t2 : Bool) (t3 : Bool) (t4 : Bool) (t5 : Int × Int) (t6 : Bool) (t7 : Int × Int) (t8 : Bool) (t9 : Int × Int) (t10 : Int × Int) (t11 : Int × Int) (t12 : Int × Int) (t13 : Int × Int) (t14 : Int × Int) (t15 : Int × Int) (t16 : Int × Int) (t17 : Int × Int) (t18 : Int × Int) (t19 : Int × Int) (t20 : Int × Int) (t21 : Int × Int) (t22 : Int × Int) (t23 : Int × Int) (t24 : Int × Int) (t25 : Int × Int) (t26 : Int × Int) (t27 : Int × Int) (t28 : Int × Int) : A.ival_Div.c0 k a0 a1 b0 b1 t1 t2 t3 t4 t5 t6 t7 t8 t9 t10 t11 t12 t13 t14 t15 t16 t17 t18 t19 t20 t21 t22 t23 t24 t25 t26 t27 t28 = k (A.ival_Div.c0 id a0 a1 b0 b1 t1 t2 t3 t4 t5 t6 t7 t8 t9 t10 t11 t12 t13 t14 t15 t16 t17 t18 t19 t20 t21 t22 t23 t24 t25 t26 t27 t28) := by
  unfold A.ival_Div.c0; (repeat' (first | (apply pc k) | (exact rfl)))
theorem A.ival_Div.p {γ : Type} (k : Int × Int × Bool → γ) (a0 : Int) (a1 : Int) (b0 : Int) (b1 : Int) : A.ival_Div.c k a0 a1 b0 b1 = k (A.ival_Div a0 a1 b0 b1) :=
  let t1 := A.ival_none a0 a1; let t2 := A.ival_none b0 b1; let t3 := A.ival_Has a0 a1 (-9223372036854775808); let t4 := A.ival_Has b0 b1 (-1); let t5 := A.ival_under b0 b1; let t6 := A.ival_Has t5.fst t5.snd (-1); let t7 := A.ival_over b0 b1; let t8 := A.ival_Has t7.fst t7.snd (-1); let t9 := A.ival_Join 1 0 (-9223372036854775808) (-9223372036854775808); let t10 := A.ival_Meet a0 a1 (-9223372036854775807) 9223372036854775807; let t11 := A.ival_cornersQ t10.fst t10.snd (-1) (-1); let t12 := A.ival_Join t9.fst t9.snd t11.fst t11.snd; let t13 := A.ival_Meet t5.fst t5.snd (-9223372036854775808) (-2); let t14 := A.ival_cornersQ a0 a1 t13.fst t13.snd; let t15 := A.ival_Join t12.fst t12.snd t14.fst t14.snd; let t16 := A.ival_Join t15.fst t15.snd (-9223372036854775808) (-9223372036854775808); let t17 := A.ival_Join t16.fst t16.snd t11.fst t11.snd; let t18 := A.ival_Meet t7.fst t7.snd (-9223372036854775808) (-2); let t19 := A.ival_cornersQ a0 a1 t18.fst t18.snd; let t20 := A.ival_Join t17.fst t17.snd t19.fst t19.snd; let t21 := A.ival_cornersQ a0 a1 t7.fst t7.snd; let t22 := A.ival_Join t15.fst t15.snd t21.fst t21.snd; let t23 := A.ival_cornersQ a0 a1 t5.fst t5.snd; let t24 := A.ival_Join 1 0 t23.fst t23.snd; let t25 := A.ival_Join t24.fst t24.snd (-9223372036854775808) (-9223372036854775808); let t26 := A.ival_Join t25.fst t25.snd t11.fst t11.snd; let t27 := A.ival_Join t26.fst t26.snd t19.fst t19.snd; let t28 := A.ival_Join t24.fst t24.snd t21.fst t21.snd; A.ival_Div.p0 k a0 a1 b0 b1 t1 t2 t3 t4 t5 t6 t7 t8 t9 t10 t11 t12 t13 t14 t15 t16 t17 t18 t19 t20 t21 t22 t23 t24 t25 t26 t27 t28
theorem A.ival_Div.r (a0 : Int) (a1 : Int) (b0 : Int) (b1 : Int) : runF P G (tab L_A.ival_cornersQ) { merge := true } 60 Tryz.f124 [.agg #[.int .i64 a0, .int .i64 a1], .agg #[.int .i64 b0, .int .i64 b1]] = A.ival_Div.c (fun q => some (.tuple #[.agg #[.int .i64 (q).1, .int .i64 (q).2.1], .bool (q).2.2] : Value)) a0 a1 b0 b1 := by kernel_rfl
theorem A.ival_Div.t : TabOK P G (tab L_A.ival_Div) :=
  TabOK_mk C A.ival_cornersQ.t Tryz.func124 (by kernel_rfl) true 60 (by
    rintro ⟨⟨a0, ⟨a1, ⟨⟩⟩⟩, ⟨⟨b0, ⟨b1, ⟨⟩⟩⟩, ⟨⟩⟩⟩ h
    exact (A.ival_Div.r a0 a1 b0 b1).trans (A.ival_Div.p (fun q => some (.tuple #[.agg #[.int .i64 (q).1, .int .i64 (q).2.1], .bool (q).2.2] : Value)) a0 a1 b0 b1))

def A.ival_Rem.c0 {γ : Type} (k : Int × Int × Bool → γ) (a0 : Int) (a1 : Int) (b0 : Int) (b1 : Int) (t1 : Bool) (t2 : Bool) (t3 : Int × Int) (t4 : Bool) (t5 : Int × Int) (t6 : Bool) (t7 : Bool) (t8 : Bool) (t9 : Int × Bool) (t10 : Int) (t11 : Int) (t12 : Int) (t13 : Int) (t14 : Int) (t15 : Int) (t16 : Int) (t17 : Int) (t18 : Int) (t19 : Int) (t20 : Int) (t21 : Int) (t22 : Int) (t23 : Int) (t24 : Int) (t25 : Int) (t26 : Int) (t27 : Int) (t28 : Int) (t29 : Int) (t30 : Int) (t31 : Int) (t32 : Int) (t33 : Int) : γ := bif t1
  then k (1, 0, true)
  else bif t2
   then k (1, 0, true)
   else bif t4
    then bif t6
     then k (1, 0, true)
     else bif t7
      then bif t8
       then k (t9.fst, t9.fst, true)
       else bif decide (t12 < t22)
        then k (a0, a1, true)
        else bif decide (a0 < 0)
         then bif decide (a1 > 0)
          then k (t32, t33, true)
          else k (t32, 0, true)
         else bif decide (a1 > 0)
          then k (0, t33, true)
          else k (0, 0, true)
      else bif decide (t12 < t22)
       then k (a0, a1, true)
       else bif decide (a0 < 0)
        then bif decide (a1 > 0)
         then k (t32, t33, true)
         else k (t32, 0, true)
        else bif decide (a1 > 0)
         then k (0, t33, true)
         else k (0, 0, true)
    else bif t7
     then bif t8
      then k (t9.fst, t9.fst, true)
      else bif decide (t12 < t22)
       then k (a0, a1, true)
       else bif decide (a0 < 0)
        then bif decide (a1 > 0)
         then k (t32, t33, true)
         else k (t32, 0, true)
        else bif decide (a1 > 0)
         then k (0, t33, true)
         else k (0, 0, true)
     else bif decide (t12 < t22)
      then k (a0, a1, true)
      else bif decide (a0 < 0)
       then bif decide (a1 > 0)
        then k (t32, t33, true)
        else k (t32, 0, true)
       else bif decide (a1 > 0)
        then k (0, t33, true)
        else k (0, 0, true)
def A.ival_Rem.c {γ : Type} (k : Int × Int × Bool → γ) (a0 : Int) (a1 : Int) (b0 : Int) (b1 : Int) : γ := let t1 := A.ival_none a0 a1; let t2 := A.ival_none b0 b1; let t3 := A.ival_under b0 b1; let t4 := A.ival_none t3.fst t3.snd; let t5 := A.ival_over b0 b1; let t6 := A.ival_none t5.fst t5.snd; let t7 := A.ival_one a0 a1; let t8 := A.ival_one b0 b1; let t9 := word_Rem a0 b0; let t10 := A.ival_distance a1; let t11 := A.ival_distance a0; let t12 := if t10 > t11 then t10 else t11; let t13 := A.ival_distance t5.snd; let t14 := A.ival_distance t5.fst; let t15 := A.ival_distance t3.snd; let t16 := A.ival_distance t3.fst; let t17 := if t16 < 18446744073709551615 then t16 else 18446744073709551615; let t18 := if t15 < t17 then t15 else t17; let t19 := bif !t4 then t18 else 18446744073709551615; let t20 := if t14 < t19 then t14 else t19; let t21 := if t13 < t20 then t13 else t20; let t22 := bif !t6 then t21 else t19; let t23 := if t16 > 0 then t16 else 0; let t24 := if t15 > t23 then t15 else t23; let t25 := bif !t4 then t24 else 0; let t26 := if t14 > t25 then t14 else t25; let t27 := if t13 > t26 then t13 else t26; let t28 := bif !t6 then t27 else t25; let t29 := IntKind.u64.wrap (t28 - 1); let t30 := IntKind.i64.wrap t29; let t31 := IntKind.i64.wrap (0 - t30); let t32 := if t31 > a0 then t31 else a0; let t33 := if t30 < a1 then t30 else a1; A.ival_Rem.c0 k a0 a1 b0 b1 t1 t2 t3 t4 t5 t6 t7 t8 t9 t10 t11 t12 t13 t14 t15 t16 t17 t18 t19 t20 t21 t22 t23 t24 t25 t26 t27 t28 t29 t30 t31 t32 t33
def A.ival_Rem (a0 : Int) (a1 : Int) (b0 : Int) (b1 : Int) : Int × Int × Bool := A.ival_Rem.c id a0 a1 b0 b1
def A.ival_Rem.F : FV := mkF (cP (cA (cP (cI .i64) (cP (cI .i64) cU))) (cP (cA (cP (cI .i64) (cP (cI .i64) cU))) cU)) (fun _ => true) (fun | ((a0, (a1, ())), ((b0, (b1, ())), ())) => .tuple #[.agg #[.int .i64 (A.ival_Rem a0 a1 b0 b1).1, .int .i64 (A.ival_Rem a0 a1 b0 b1).2.1], .bool (A.ival_Rem a0 a1 b0 b1).2.2])
def L_A.ival_Rem : TL := (127, A.ival_Rem.F) :: L_A.ival_Div
theorem A.ival_Rem.p0 {γ : Type} (k : Int × Int × Bool → γ) (a0 : Int) (a1 : Int) (b0 : Int) (b1 : Int) (t1 : Bool) (t2 : Bool) (t3 : Int × Int) (t4 : Bool) (t5 : Int × Int) (t6 : Bool) (t7 : Bool) (t8 : Bool) (t9 : Int × Bool) (t10 : Int) (t11 : Int) (t12 : Int) (t13 : Int) (t14 : Int) (t15 : Int) (t16 : Int) (t17 : Int) (t18 : Int) (t19 : Int) (t20 : Int) (t21 : Int) (t22 : Int) (t23 : Int) (t24 : Int) (t25 : Int) (t26 : Int) (t27 : Int) (t28 : Int) (t29 : Int) (t30 : Int) (t31 : Int) (t32 : Int) (t33 : Int) : A.ival_Rem.c0 k a0 a1 b0 b1 t1 t2 t3 t4 t5 t6 t7 t8 t9 t10 t11 t12 t13 t14 t15 t16 t17 t18 t19 t20 t21 t22 t23 t24 t25 t26 t27 t28 t29 t30 t31 t32 t33 = k (A.ival_Rem.c0 id a0 a1 b0 b1 t1 t2 t3 t4 t5 t6 t7 t8 t9 t10 t11 t12 t13 t14 t15 t16 t17 t18 t19 t20 t21 t22 t23 t24 t25 t26 t27 t28 t29 t30 t31 t32 t33) := by
  unfold A.ival_Rem.c0; (repeat' (first | (apply pc k) | (exact rfl)))
theorem A.ival_Rem.p {γ : Type} (k : Int × Int × Bool → γ) (a0 : Int) (a1 : Int) (b0 : Int) (b1 : Int) : A.ival_Rem.c k a0 a1 b0 b1 = k (A.ival_Rem a0 a1 b0 b1) :=
  let t1 := A.ival_none a0 a1; let t2 := A.ival_none b0 b1; let t3 := A.ival_under b0 b1; let t4 := A.ival_none t3.fst t3.snd; let t5 := A.ival_over b0 b1; let t6 := A.ival_none t5.fst t5.snd; let t7 := A.ival_one a0 a1; let t8 := A.ival_one b0 b1; let t9 := word_Rem a0 b0; let t10 := A.ival_distance a1; let t11 := A.ival_distance a0; let t12 := if t10 > t11 then t10 else t11; let t13 := A.ival_distance t5.snd; let t14 := A.ival_distance t5.fst; let t15 := A.ival_distance t3.snd; let t16 := A.ival_distance t3.fst; let t17 := if t16 < 18446744073709551615 then t16 else 18446744073709551615; let t18 := if t15 < t17 then t15 else t17; let t19 := bif !t4 then t18 else 18446744073709551615; let t20 := if t14 < t19 then t14 else t19; let t21 := if t13 < t20 then t13 else t20; let t22 := bif !t6 then t21 else t19; let t23 := if t16 > 0 then t16 else 0; let t24 := if t15 > t23 then t15 else t23; let t25 := bif !t4 then t24 else 0; let t26 := if t14 > t25 then t14 else t25; let t27 := if t13 > t26 then t13 else t26; let t28 := bif !t6 then t27 else t25; let t29 := IntKind.u64.wrap (t28 - 1); let t30 := IntKind.i64.wrap t29; let t31 := IntKind.i64.wrap (0 - t30); let t32 := if t31 > a0 then t31 else a0; let t33 := if t30 < a1 then t30 else a1; A.ival_Rem.p0 k a0 a1 b0 b1 t1 t2 t3 t4 t5 t6 t7 t8 t9 t10 t11 t12 t13 t14 t15 t16 t17 t18 t19 t20 t21 t22 t23 t24 t25 t26 t27 t28 t29 t30 t31 t32 t33
theorem A.ival_Rem.r (a0 : Int) (a1 : Int) (b0 : Int) (b1 : Int) : runF P G (tab L_A.ival_Div) { merge := true } 60 Tryz.f127 [.agg #[.int .i64 a0, .int .i64 a1], .agg #[.int .i64 b0, .int .i64 b1]] = A.ival_Rem.c (fun q => some (.tuple #[.agg #[.int .i64 (q).1, .int .i64 (q).2.1], .bool (q).2.2] : Value)) a0 a1 b0 b1 := by kernel_rfl
theorem A.ival_Rem.t : TabOK P G (tab L_A.ival_Rem) :=
  TabOK_mk C A.ival_Div.t Tryz.func127 (by kernel_rfl) true 60 (by
    rintro ⟨⟨a0, ⟨a1, ⟨⟩⟩⟩, ⟨⟨b0, ⟨b1, ⟨⟩⟩⟩, ⟨⟩⟩⟩ h
    exact (A.ival_Rem.r a0 a1 b0 b1).trans (A.ival_Rem.p (fun q => some (.tuple #[.agg #[.int .i64 (q).1, .int .i64 (q).2.1], .bool (q).2.2] : Value)) a0 a1 b0 b1))

def A.ref_Of.c0 {γ : Type} (k : Int × Int → γ) (a : Int) (t1 : Int) : γ := k (a.fdiv (2 ^ min (Int.toNat 63) IntKind.i64.bits), t1)
def A.ref_Of.c {γ : Type} (k : Int × Int → γ) (a : Int) : γ := let t1 := IntKind.u64.wrap a; A.ref_Of.c0 k a t1
def A.ref_Of (a : Int) : Int × Int := A.ref_Of.c id a
def A.ref_Of.F : FV := mkF (cP (cI .i64) cU) (fun _ => true) (fun | (a, ()) => .agg #[.int .i64 (A.ref_Of a).1, .int .u64 (A.ref_Of a).2])
def L_A.ref_Of : TL := (159, A.ref_Of.F) :: L_A.ival_Rem
theorem A.ref_Of.p0 {γ : Type} (k : Int × Int → γ) (a : Int) (t1 : Int) : A.ref_Of.c0 k a t1 = k (A.ref_Of.c0 id a t1) := by
  unfold A.ref_Of.c0; (repeat' (first | (apply pc k) | (exact rfl)))
theorem A.ref_Of.p {γ : Type} (k : Int × Int → γ) (a : Int) : A.ref_Of.c k a = k (A.ref_Of a) :=
  let t1 := IntKind.u64.wrap a; A.ref_Of.p0 k a t1
theorem A.ref_Of.r (a : Int) : runF P G (tab L_A.ival_Rem) { merge := true } 60 Tryz.f159 [.int .i64 a] = A.ref_Of.c (fun q => some (.agg #[.int .i64 (q).1, .int .u64 (q).2] : Value)) a := by kernel_rfl
theorem A.ref_Of.t : TabOK P G (tab L_A.ref_Of) :=
  TabOK_mk C A.ival_Rem.t Tryz.func159 (by kernel_rfl) true 60 (by
    rintro ⟨a, ⟨⟩⟩ h
    exact (A.ref_Of.r a).trans (A.ref_Of.p (fun q => some (.agg #[.int .i64 (q).1, .int .u64 (q).2] : Value)) a))

def A.ref_plus.c0 {γ : Type} (k : Int × Int → γ) (a0 : Int) (a1 : Int) (b0 : Int) (b1 : Int) (t1 : Int) (t2 : Int) (t3 : Int) : γ := bif decide (t1 < a1)
  then k (t3, t1)
  else k (t2, t1)
def A.ref_plus.c {γ : Type} (k : Int × Int → γ) (a0 : Int) (a1 : Int) (b0 : Int) (b1 : Int) : γ := let t1 := IntKind.u64.wrap (a1 + b1); let t2 := IntKind.i64.wrap (a0 + b0); let t3 := IntKind.i64.wrap (t2 + 1); A.ref_plus.c0 k a0 a1 b0 b1 t1 t2 t3
def A.ref_plus (a0 : Int) (a1 : Int) (b0 : Int) (b1 : Int) : Int × Int := A.ref_plus.c id a0 a1 b0 b1
def A.ref_plus.F : FV := mkF (cP (cA (cP (cI .i64) (cP (cI .u64) cU))) (cP (cA (cP (cI .i64) (cP (cI .u64) cU))) cU)) (fun _ => true) (fun | ((a0, (a1, ())), ((b0, (b1, ())), ())) => .agg #[.int .i64 (A.ref_plus a0 a1 b0 b1).1, .int .u64 (A.ref_plus a0 a1 b0 b1).2])
def L_A.ref_plus : TL := (161, A.ref_plus.F) :: L_A.ref_Of
theorem A.ref_plus.p0 {γ : Type} (k : Int × Int → γ) (a0 : Int) (a1 : Int) (b0 : Int) (b1 : Int) (t1 : Int) (t2 : Int) (t3 : Int) : A.ref_plus.c0 k a0 a1 b0 b1 t1 t2 t3 = k (A.ref_plus.c0 id a0 a1 b0 b1 t1 t2 t3) := by
  unfold A.ref_plus.c0; (repeat' (first | (apply pc k) | (exact rfl)))
theorem A.ref_plus.p {γ : Type} (k : Int × Int → γ) (a0 : Int) (a1 : Int) (b0 : Int) (b1 : Int) : A.ref_plus.c k a0 a1 b0 b1 = k (A.ref_plus a0 a1 b0 b1) :=
  let t1 := IntKind.u64.wrap (a1 + b1); let t2 := IntKind.i64.wrap (a0 + b0); let t3 := IntKind.i64.wrap (t2 + 1); A.ref_plus.p0 k a0 a1 b0 b1 t1 t2 t3
theorem A.ref_plus.r (a0 : Int) (a1 : Int) (b0 : Int) (b1 : Int) : runF P G (tab L_A.ref_Of) { merge := true } 60 Tryz.f161 [.agg #[.int .i64 a0, .int .u64 a1], .agg #[.int .i64 b0, .int .u64 b1]] = A.ref_plus.c (fun q => some (.agg #[.int .i64 (q).1, .int .u64 (q).2] : Value)) a0 a1 b0 b1 := by kernel_rfl
theorem A.ref_plus.t : TabOK P G (tab L_A.ref_plus) :=
  TabOK_mk C A.ref_Of.t Tryz.func161 (by kernel_rfl) true 60 (by
    rintro ⟨⟨a0, ⟨a1, ⟨⟩⟩⟩, ⟨⟨b0, ⟨b1, ⟨⟩⟩⟩, ⟨⟩⟩⟩ h
    exact (A.ref_plus.r a0 a1 b0 b1).trans (A.ref_plus.p (fun q => some (.agg #[.int .i64 (q).1, .int .u64 (q).2] : Value)) a0 a1 b0 b1))

def A.ref_minus.c0 {γ : Type} (k : Int × Int → γ) (a0 : Int) (a1 : Int) (b0 : Int) (b1 : Int) (t1 : Int) (t2 : Int) (t3 : Int) : γ := bif decide (a1 < b1)
  then k (t2, t3)
  else k (t1, t3)
def A.ref_minus.c {γ : Type} (k : Int × Int → γ) (a0 : Int) (a1 : Int) (b0 : Int) (b1 : Int) : γ := let t1 := IntKind.i64.wrap (a0 - b0); let t2 := IntKind.i64.wrap (t1 - 1); let t3 := IntKind.u64.wrap (a1 - b1); A.ref_minus.c0 k a0 a1 b0 b1 t1 t2 t3
def A.ref_minus (a0 : Int) (a1 : Int) (b0 : Int) (b1 : Int) : Int × Int := A.ref_minus.c id a0 a1 b0 b1
def A.ref_minus.F : FV := mkF (cP (cA (cP (cI .i64) (cP (cI .u64) cU))) (cP (cA (cP (cI .i64) (cP (cI .u64) cU))) cU)) (fun _ => true) (fun | ((a0, (a1, ())), ((b0, (b1, ())), ())) => .agg #[.int .i64 (A.ref_minus a0 a1 b0 b1).1, .int .u64 (A.ref_minus a0 a1 b0 b1).2])
def L_A.ref_minus : TL := (158, A.ref_minus.F) :: L_A.ref_plus
theorem A.ref_minus.p0 {γ : Type} (k : Int × Int → γ) (a0 : Int) (a1 : Int) (b0 : Int) (b1 : Int) (t1 : Int) (t2 : Int) (t3 : Int) : A.ref_minus.c0 k a0 a1 b0 b1 t1 t2 t3 = k (A.ref_minus.c0 id a0 a1 b0 b1 t1 t2 t3) := by
  unfold A.ref_minus.c0; (repeat' (first | (apply pc k) | (exact rfl)))
theorem A.ref_minus.p {γ : Type} (k : Int × Int → γ) (a0 : Int) (a1 : Int) (b0 : Int) (b1 : Int) : A.ref_minus.c k a0 a1 b0 b1 = k (A.ref_minus a0 a1 b0 b1) :=
  let t1 := IntKind.i64.wrap (a0 - b0); let t2 := IntKind.i64.wrap (t1 - 1); let t3 := IntKind.u64.wrap (a1 - b1); A.ref_minus.p0 k a0 a1 b0 b1 t1 t2 t3
theorem A.ref_minus.r (a0 : Int) (a1 : Int) (b0 : Int) (b1 : Int) : runF P G (tab L_A.ref_plus) { merge := true } 60 Tryz.f158 [.agg #[.int .i64 a0, .int .u64 a1], .agg #[.int .i64 b0, .int .u64 b1]] = A.ref_minus.c (fun q => some (.agg #[.int .i64 (q).1, .int .u64 (q).2] : Value)) a0 a1 b0 b1 := by kernel_rfl
theorem A.ref_minus.t : TabOK P G (tab L_A.ref_minus) :=
  TabOK_mk C A.ref_plus.t Tryz.func158 (by kernel_rfl) true 60 (by
    rintro ⟨⟨a0, ⟨a1, ⟨⟩⟩⟩, ⟨⟨b0, ⟨b1, ⟨⟩⟩⟩, ⟨⟩⟩⟩ h
    exact (A.ref_minus.r a0 a1 b0 b1).trans (A.ref_minus.p (fun q => some (.agg #[.int .i64 (q).1, .int .u64 (q).2] : Value)) a0 a1 b0 b1))

def A.ref_less.c {γ : Type} (k : Bool → γ) (a0 : Int) (a1 : Int) (b0 : Int) (b1 : Int) : γ := bif decide (a0 < b0)
  then k (true)
  else bif a0 == b0
   then k (decide (a1 < b1))
   else k (false)
def A.ref_less (a0 : Int) (a1 : Int) (b0 : Int) (b1 : Int) : Bool := A.ref_less.c id a0 a1 b0 b1
def A.ref_less.F : FV := mkF (cP (cA (cP (cI .i64) (cP (cI .u64) cU))) (cP (cA (cP (cI .i64) (cP (cI .u64) cU))) cU)) (fun _ => true) (fun | ((a0, (a1, ())), ((b0, (b1, ())), ())) => .bool (A.ref_less a0 a1 b0 b1))
def L_A.ref_less : TL := (164, A.ref_less.F) :: L_A.ref_minus
theorem A.ref_less.p {γ : Type} (k : Bool → γ) (a0 : Int) (a1 : Int) (b0 : Int) (b1 : Int) : A.ref_less.c k a0 a1 b0 b1 = k (A.ref_less a0 a1 b0 b1) := by
  unfold A.ref_less A.ref_less.c; (repeat' (first | (apply pc k) | (exact rfl)))
theorem A.ref_less.r (a0 : Int) (a1 : Int) (b0 : Int) (b1 : Int) : runF P G (tab L_A.ref_minus) { merge := true } 60 Tryz.f164 [.agg #[.int .i64 a0, .int .u64 a1], .agg #[.int .i64 b0, .int .u64 b1]] = A.ref_less.c (fun q => some (.bool (q) : Value)) a0 a1 b0 b1 := by kernel_rfl
theorem A.ref_less.t : TabOK P G (tab L_A.ref_less) :=
  TabOK_mk C A.ref_minus.t Tryz.func164 (by kernel_rfl) true 60 (by
    rintro ⟨⟨a0, ⟨a1, ⟨⟩⟩⟩, ⟨⟨b0, ⟨b1, ⟨⟩⟩⟩, ⟨⟩⟩⟩ h
    exact (A.ref_less.r a0 a1 b0 b1).trans (A.ref_less.p (fun q => some (.bool (q) : Value)) a0 a1 b0 b1))

def A.ref_Fits.c0 {γ : Type} (k : Bool → γ) (a0 : Int) (a1 : Int) (t1 : Int) : γ := k (a0 == t1.fdiv (2 ^ min (Int.toNat 63) IntKind.i64.bits))
def A.ref_Fits.c {γ : Type} (k : Bool → γ) (a0 : Int) (a1 : Int) : γ := let t1 := IntKind.i64.wrap a1; A.ref_Fits.c0 k a0 a1 t1
def A.ref_Fits (a0 : Int) (a1 : Int) : Bool := A.ref_Fits.c id a0 a1
def A.ref_Fits.F : FV := mkF (cP (cA (cP (cI .i64) (cP (cI .u64) cU))) cU) (fun _ => true) (fun | ((a0, (a1, ())), ()) => .bool (A.ref_Fits a0 a1))
def L_A.ref_Fits : TL := (165, A.ref_Fits.F) :: L_A.ref_less
theorem A.ref_Fits.p0 {γ : Type} (k : Bool → γ) (a0 : Int) (a1 : Int) (t1 : Int) : A.ref_Fits.c0 k a0 a1 t1 = k (A.ref_Fits.c0 id a0 a1 t1) := by
  unfold A.ref_Fits.c0; (repeat' (first | (apply pc k) | (exact rfl)))
theorem A.ref_Fits.p {γ : Type} (k : Bool → γ) (a0 : Int) (a1 : Int) : A.ref_Fits.c k a0 a1 = k (A.ref_Fits a0 a1) :=
  let t1 := IntKind.i64.wrap a1; A.ref_Fits.p0 k a0 a1 t1
theorem A.ref_Fits.r (a0 : Int) (a1 : Int) : runF P G (tab L_A.ref_less) { merge := true } 60 Tryz.f165 [.agg #[.int .i64 a0, .int .u64 a1]] = A.ref_Fits.c (fun q => some (.bool (q) : Value)) a0 a1 := by kernel_rfl
theorem A.ref_Fits.t : TabOK P G (tab L_A.ref_Fits) :=
  TabOK_mk C A.ref_less.t Tryz.func165 (by kernel_rfl) true 60 (by
    rintro ⟨⟨a0, ⟨a1, ⟨⟩⟩⟩, ⟨⟩⟩ h
    exact (A.ref_Fits.r a0 a1).trans (A.ref_Fits.p (fun q => some (.bool (q) : Value)) a0 a1))

def A.ref_span.c0 {γ : Type} (k : Int × Int × Bool → γ) (a0 : Int) (a1 : Int) (b0 : Int) (b1 : Int) (t1 : Bool) (t2 : Bool) (t3 : Int) (t4 : Int) (t5 : Int × Int) (t6 : Bool) : γ := bif t1
  then bif t2
   then k (t3, t4, true)
   else bif decide (t5.fst > 0)
    then k (-9223372036854775808, 9223372036854775807, false)
    else bif t5.snd == 18446744073709551615
     then k (-9223372036854775808, 9223372036854775807, false)
     else bif t6
      then k (-9223372036854775808, 9223372036854775807, false)
      else k (t3, t4, false)
  else bif decide (t5.fst > 0)
   then k (-9223372036854775808, 9223372036854775807, false)
   else bif t5.snd == 18446744073709551615
    then k (-9223372036854775808, 9223372036854775807, false)
    else bif t6
     then k (-9223372036854775808, 9223372036854775807, false)
     else k (t3, t4, false)
def A.ref_span.c {γ : Type} (k : Int × Int × Bool → γ) (a0 : Int) (a1 : Int) (b0 : Int) (b1 : Int) : γ := let t1 := A.ref_Fits a0 a1; let t2 := A.ref_Fits b0 b1; let t3 := IntKind.i64.wrap a1; let t4 := IntKind.i64.wrap b1; let t5 := A.ref_minus b0 b1 a0 a1; let t6 := A.ref_Empty t3 t4; A.ref_span.c0 k a0 a1 b0 b1 t1 t2 t3 t4 t5 t6
def A.ref_span (a0 : Int) (a1 : Int) (b0 : Int) (b1 : Int) : Int × Int × Bool := A.ref_span.c id a0 a1 b0 b1
def A.ref_span.F : FV := mkF (cP (cA (cP (cI .i64) (cP (cI .u64) cU))) (cP (cA (cP (cI .i64) (cP (cI .u64) cU))) cU)) (fun _ => true) (fun | ((a0, (a1, ())), ((b0, (b1, ())), ())) => .tuple #[.agg #[.int .i64 (A.ref_span a0 a1 b0 b1).1, .int .i64 (A.ref_span a0 a1 b0 b1).2.1], .bool (A.ref_span a0 a1 b0 b1).2.2])
def L_A.ref_span : TL := (157, A.ref_span.F) :: L_A.ref_Fits
theorem A.ref_span.p0 {γ : Type} (k : Int × Int × Bool → γ) (a0 : Int) (a1 : Int) (b0 : Int) (b1 : Int) (t1 : Bool) (t2 : Bool) (t3 : Int) (t4 : Int) (t5 : Int × Int) (t6 : Bool) : A.ref_span.c0 k a0 a1 b0 b1 t1 t2 t3 t4 t5 t6 = k (A.ref_span.c0 id a0 a1 b0 b1 t1 t2 t3 t4 t5 t6) := by
  unfold A.ref_span.c0; (repeat' (first | (apply pc k) | (exact rfl)))
theorem A.ref_span.p {γ : Type} (k : Int × Int × Bool → γ) (a0 : Int) (a1 : Int) (b0 : Int) (b1 : Int) : A.ref_span.c k a0 a1 b0 b1 = k (A.ref_span a0 a1 b0 b1) :=
  let t1 := A.ref_Fits a0 a1; let t2 := A.ref_Fits b0 b1; let t3 := IntKind.i64.wrap a1; let t4 := IntKind.i64.wrap b1; let t5 := A.ref_minus b0 b1 a0 a1; let t6 := A.ref_Empty t3 t4; A.ref_span.p0 k a0 a1 b0 b1 t1 t2 t3 t4 t5 t6
theorem A.ref_span.r (a0 : Int) (a1 : Int) (b0 : Int) (b1 : Int) : runF P G (tab L_A.ref_Fits) { merge := true } 60 Tryz.f157 [.agg #[.int .i64 a0, .int .u64 a1], .agg #[.int .i64 b0, .int .u64 b1]] = A.ref_span.c (fun q => some (.tuple #[.agg #[.int .i64 (q).1, .int .i64 (q).2.1], .bool (q).2.2] : Value)) a0 a1 b0 b1 := by kernel_rfl
theorem A.ref_span.t : TabOK P G (tab L_A.ref_span) :=
  TabOK_mk C A.ref_Fits.t Tryz.func157 (by kernel_rfl) true 60 (by
    rintro ⟨⟨a0, ⟨a1, ⟨⟩⟩⟩, ⟨⟨b0, ⟨b1, ⟨⟩⟩⟩, ⟨⟩⟩⟩ h
    exact (A.ref_span.r a0 a1 b0 b1).trans (A.ref_span.p (fun q => some (.tuple #[.agg #[.int .i64 (q).1, .int .i64 (q).2.1], .bool (q).2.2] : Value)) a0 a1 b0 b1))

def A.ref_Add.c0 {γ : Type} (k : Int × Int × Bool → γ) (a0 : Int) (a1 : Int) (b0 : Int) (b1 : Int) (t1 : Bool) (t2 : Bool) (t3 : Int × Int) (t4 : Int × Int) (t5 : Int × Int) (t6 : Int × Int) (t7 : Int × Int) (t8 : Int × Int) (t9 : Int × Int × Bool) : γ := bif t1
  then k (A.ref_None.fst, A.ref_None.snd, true)
  else bif t2
   then k (A.ref_None.fst, A.ref_None.snd, true)
   else k (t9.fst, t9.snd.fst, t9.snd.snd)
def A.ref_Add.c {γ : Type} (k : Int × Int × Bool → γ) (a0 : Int) (a1 : Int) (b0 : Int) (b1 : Int) : γ := let t1 := A.ref_Empty a0 a1; let t2 := A.ref_Empty b0 b1; let t3 := A.ref_Of a0; let t4 := A.ref_Of b0; let t5 := A.ref_plus t3.fst t3.snd t4.fst t4.snd; let t6 := A.ref_Of a1; let t7 := A.ref_Of b1; let t8 := A.ref_plus t6.fst t6.snd t7.fst t7.snd; let t9 := A.ref_span t5.fst t5.snd t8.fst t8.snd; A.ref_Add.c0 k a0 a1 b0 b1 t1 t2 t3 t4 t5 t6 t7 t8 t9
def A.ref_Add (a0 : Int) (a1 : Int) (b0 : Int) (b1 : Int) : Int × Int × Bool := A.ref_Add.c id a0 a1 b0 b1
def A.ref_Add.F : FV := mkF (cP (cA (cP (cI .i64) (cP (cI .i64) cU))) (cP (cA (cP (cI .i64) (cP (cI .i64) cU))) cU)) (fun _ => true) (fun | ((a0, (a1, ())), ((b0, (b1, ())), ())) => .tuple #[.agg #[.int .i64 (A.ref_Add a0 a1 b0 b1).1, .int .i64 (A.ref_Add a0 a1 b0 b1).2.1], .bool (A.ref_Add a0 a1 b0 b1).2.2])
def L_A.ref_Add : TL := (83, A.ref_Add.F) :: L_A.ref_span
theorem A.ref_Add.p0 {γ : Type} (k : Int × Int × Bool → γ) (a0 : Int) (a1 : Int) (b0 : Int) (b1 : Int) (t1 : Bool) (t2 : Bool) (t3 : Int × Int) (t4 : Int × Int) (t5 : Int × Int) (t6 : Int × Int) (t7 : Int × Int) (t8 : Int × Int) (t9 : Int × Int × Bool) : A.ref_Add.c0 k a0 a1 b0 b1 t1 t2 t3 t4 t5 t6 t7 t8 t9 = k (A.ref_Add.c0 id a0 a1 b0 b1 t1 t2 t3 t4 t5 t6 t7 t8 t9) := by
  unfold A.ref_Add.c0; (repeat' (first | (apply pc k) | (exact rfl)))
theorem A.ref_Add.p {γ : Type} (k : Int × Int × Bool → γ) (a0 : Int) (a1 : Int) (b0 : Int) (b1 : Int) : A.ref_Add.c k a0 a1 b0 b1 = k (A.ref_Add a0 a1 b0 b1) :=
  let t1 := A.ref_Empty a0 a1; let t2 := A.ref_Empty b0 b1; let t3 := A.ref_Of a0; let t4 := A.ref_Of b0; let t5 := A.ref_plus t3.fst t3.snd t4.fst t4.snd; let t6 := A.ref_Of a1; let t7 := A.ref_Of b1; let t8 := A.ref_plus t6.fst t6.snd t7.fst t7.snd; let t9 := A.ref_span t5.fst t5.snd t8.fst t8.snd; A.ref_Add.p0 k a0 a1 b0 b1 t1 t2 t3 t4 t5 t6 t7 t8 t9
theorem A.ref_Add.r (a0 : Int) (a1 : Int) (b0 : Int) (b1 : Int) : runF P G (tab L_A.ref_span) { merge := true } 60 Tryz.f83 [.agg #[.int .i64 a0, .int .i64 a1], .agg #[.int .i64 b0, .int .i64 b1]] = A.ref_Add.c (fun q => some (.tuple #[.agg #[.int .i64 (q).1, .int .i64 (q).2.1], .bool (q).2.2] : Value)) a0 a1 b0 b1 := by kernel_rfl
theorem A.ref_Add.t : TabOK P G (tab L_A.ref_Add) :=
  TabOK_mk C A.ref_span.t Tryz.func83 (by kernel_rfl) true 60 (by
    rintro ⟨⟨a0, ⟨a1, ⟨⟩⟩⟩, ⟨⟨b0, ⟨b1, ⟨⟩⟩⟩, ⟨⟩⟩⟩ h
    exact (A.ref_Add.r a0 a1 b0 b1).trans (A.ref_Add.p (fun q => some (.tuple #[.agg #[.int .i64 (q).1, .int .i64 (q).2.1], .bool (q).2.2] : Value)) a0 a1 b0 b1))

def A.ref_far.c0 {γ : Type} (k : Int → γ) (a : Int) (t1 : Int) (t2 : Int) : γ := bif decide (a < 0)
  then k (t2)
  else k (t1)
def A.ref_far.c {γ : Type} (k : Int → γ) (a : Int) : γ := let t1 := IntKind.u64.wrap a; let t2 := IntKind.u64.wrap (0 - t1); A.ref_far.c0 k a t1 t2
def A.ref_far (a : Int) : Int := A.ref_far.c id a
def A.ref_far.F : FV := mkF (cP (cI .i64) cU) (fun _ => true) (fun | (a, ()) => .int .u64 (A.ref_far a))
def L_A.ref_far : TL := (168, A.ref_far.F) :: L_A.ref_Add
theorem A.ref_far.p0 {γ : Type} (k : Int → γ) (a : Int) (t1 : Int) (t2 : Int) : A.ref_far.c0 k a t1 t2 = k (A.ref_far.c0 id a t1 t2) := by
  unfold A.ref_far.c0; (repeat' (first | (apply pc k) | (exact rfl)))
theorem A.ref_far.p {γ : Type} (k : Int → γ) (a : Int) : A.ref_far.c k a = k (A.ref_far a) :=
  let t1 := IntKind.u64.wrap a; let t2 := IntKind.u64.wrap (0 - t1); A.ref_far.p0 k a t1 t2
theorem A.ref_far.r (a : Int) : runF P G (tab L_A.ref_Add) { merge := true } 60 Tryz.f168 [.int .i64 a] = A.ref_far.c (fun q => some (.int .u64 (q) : Value)) a := by kernel_rfl
theorem A.ref_far.t : TabOK P G (tab L_A.ref_far) :=
  TabOK_mk C A.ref_Add.t Tryz.func168 (by kernel_rfl) true 60 (by
    rintro ⟨a, ⟨⟩⟩ h
    exact (A.ref_far.r a).trans (A.ref_far.p (fun q => some (.int .u64 (q) : Value)) a))

def A.ref_Rem.c0 {γ : Type} (n : γ) (k : Int × Int × Bool → γ) (a0 : Int) (a1 : Int) (b0 : Int) (b1 : Int) (t1 : Bool) (t2 : Int × Int) (t3 : Bool) (t4 : Int × Int) (t5 : Bool) (t6 : Bool) (t7 : Int) (t8 : Int) (t9 : Int) (t10 : Int) (t11 : Int) (t12 : Int) (t13 : Int) (t14 : Int) (t15 : Int) (t16 : Int) (t17 : Int) (t18 : Int) (t19 : Int) (t20 : Int) (t21 : Int) (t22 : Int) (t23 : Int) (t24 : Int) (t25 : Int) (t26 : Int) (t27 : Int) : γ := bif t1
  then k (A.ref_None.fst, A.ref_None.snd, true)
  else bif t3
   then bif t5
    then k (A.ref_None.fst, A.ref_None.snd, true)
    else bif a0 == a1
     then bif b0 == b1
      then bif !decide (b0 = 0) && true && true || t6
       then k (t7, t7, true)
       else n
      else bif decide (t10 < t15)
       then k (a0, a1, true)
       else k (t25, t27, true)
     else bif decide (t10 < t15)
      then k (a0, a1, true)
      else k (t25, t27, true)
   else bif a0 == a1
    then bif b0 == b1
     then bif !decide (b0 = 0) && true && true || t6
      then k (t7, t7, true)
      else n
     else bif decide (t10 < t15)
      then k (a0, a1, true)
      else k (t25, t27, true)
    else bif decide (t10 < t15)
     then k (a0, a1, true)
     else k (t25, t27, true)
def A.ref_Rem.c {γ : Type} (n : γ) (k : Int × Int × Bool → γ) (a0 : Int) (a1 : Int) (b0 : Int) (b1 : Int) : γ := let t1 := A.ref_Empty a0 a1; let t2 := A.ref_Meet b0 b1 (-9223372036854775808) (-1); let t3 := A.ref_Empty t2.fst t2.snd; let t4 := A.ref_Meet b0 b1 1 9223372036854775807; let t5 := A.ref_Empty t4.fst t4.snd; let t6 := bif b0 != -1 then !decide (b0 = 0) && true else true; let t7 := bif b0 != -1 then a0.tmod b0 else 0; let t8 := A.ref_far a1; let t9 := A.ref_far a0; let t10 := if t8 > t9 then t8 else t9; let t11 := A.ref_far t4.fst; let t12 := A.ref_far t2.snd; let t13 := bif !t3 then t12 else 18446744073709551615; let t14 := if t11 < t13 then t11 else t13; let t15 := bif !t5 then t14 else t13; let t16 := A.ref_far t4.snd; let t17 := A.ref_far t2.fst; let t18 := bif !t3 then t17 else 0; let t19 := if t16 > t18 then t16 else t18; let t20 := bif !t5 then t19 else t18; let t21 := IntKind.u64.wrap (t20 - 1); let t22 := IntKind.i64.wrap t21; let t23 := IntKind.i64.wrap (0 - t22); let t24 := if t23 > a0 then t23 else a0; let t25 := if t24 < 0 then t24 else 0; let t26 := if t22 < a1 then t22 else a1; let t27 := if t26 > 0 then t26 else 0; A.ref_Rem.c0 n k a0 a1 b0 b1 t1 t2 t3 t4 t5 t6 t7 t8 t9 t10 t11 t12 t13 t14 t15 t16 t17 t18 t19 t20 t21 t22 t23 t24 t25 t26 t27
def A.ref_Rem.ok (a0 : Int) (a1 : Int) (b0 : Int) (b1 : Int) : Bool := A.ref_Rem.c false (fun _ => true) a0 a1 b0 b1
def A.ref_Rem (a0 : Int) (a1 : Int) (b0 : Int) (b1 : Int) : Int × Int × Bool := A.ref_Rem.c (0, 0, false) id a0 a1 b0 b1
def A.ref_Rem.F : FV := mkF (cP (cA (cP (cI .i64) (cP (cI .i64) cU))) (cP (cA (cP (cI .i64) (cP (cI .i64) cU))) cU)) (fun | ((a0, (a1, ())), ((b0, (b1, ())), ())) => A.ref_Rem.ok a0 a1 b0 b1) (fun | ((a0, (a1, ())), ((b0, (b1, ())), ())) => .tuple #[.agg #[.int .i64 (A.ref_Rem a0 a1 b0 b1).1, .int .i64 (A.ref_Rem a0 a1 b0 b1).2.1], .bool (A.ref_Rem a0 a1 b0 b1).2.2])
def L_A.ref_Rem : TL := (91, A.ref_Rem.F) :: L_A.ref_far
theorem A.ref_Rem.p0 {γ : Type} (k : Int × Int × Bool → γ) (a0 : Int) (a1 : Int) (b0 : Int) (b1 : Int) (t1 : Bool) (t2 : Int × Int) (t3 : Bool) (t4 : Int × Int) (t5 : Bool) (t6 : Bool) (t7 : Int) (t8 : Int) (t9 : Int) (t10 : Int) (t11 : Int) (t12 : Int) (t13 : Int) (t14 : Int) (t15 : Int) (t16 : Int) (t17 : Int) (t18 : Int) (t19 : Int) (t20 : Int) (t21 : Int) (t22 : Int) (t23 : Int) (t24 : Int) (t25 : Int) (t26 : Int) (t27 : Int) : A.ref_Rem.c0 false (fun _ => true) a0 a1 b0 b1 t1 t2 t3 t4 t5 t6 t7 t8 t9 t10 t11 t12 t13 t14 t15 t16 t17 t18 t19 t20 t21 t22 t23 t24 t25 t26 t27 = true → A.ref_Rem.c0 none (fun q => some (k q)) a0 a1 b0 b1 t1 t2 t3 t4 t5 t6 t7 t8 t9 t10 t11 t12 t13 t14 t15 t16 t17 t18 t19 t20 t21 t22 t23 t24 t25 t26 t27 = some (k (A.ref_Rem.c0 (0, 0, false) id a0 a1 b0 b1 t1 t2 t3 t4 t5 t6 t7 t8 t9 t10 t11 t12 t13 t14 t15 t16 t17 t18 t19 t20 t21 t22 t23 t24 t25 t26 t27)) := by
  unfold A.ref_Rem.c0; (repeat' (first | (apply pn k) | (exact pn_none _ _) | (exact pn_leaf k _)))
theorem A.ref_Rem.p {γ : Type} (k : Int × Int × Bool → γ) (a0 : Int) (a1 : Int) (b0 : Int) (b1 : Int) (h : A.ref_Rem.ok a0 a1 b0 b1 = true) : A.ref_Rem.c none (fun q => some (k q)) a0 a1 b0 b1 = some (k (A.ref_Rem a0 a1 b0 b1)) :=
  let t1 := A.ref_Empty a0 a1; let t2 := A.ref_Meet b0 b1 (-9223372036854775808) (-1); let t3 := A.ref_Empty t2.fst t2.snd; let t4 := A.ref_Meet b0 b1 1 9223372036854775807; let t5 := A.ref_Empty t4.fst t4.snd; let t6 := bif b0 != -1 then !decide (b0 = 0) && true else true; let t7 := bif b0 != -1 then a0.tmod b0 else 0; let t8 := A.ref_far a1; let t9 := A.ref_far a0; let t10 := if t8 > t9 then t8 else t9; let t11 := A.ref_far t4.fst; let t12 := A.ref_far t2.snd; let t13 := bif !t3 then t12 else 18446744073709551615; let t14 := if t11 < t13 then t11 else t13; let t15 := bif !t5 then t14 else t13; let t16 := A.ref_far t4.snd; let t17 := A.ref_far t2.fst; let t18 := bif !t3 then t17 else 0; let t19 := if t16 > t18 then t16 else t18; let t20 := bif !t5 then t19 else t18; let t21 := IntKind.u64.wrap (t20 - 1); let t22 := IntKind.i64.wrap t21; let t23 := IntKind.i64.wrap (0 - t22); let t24 := if t23 > a0 then t23 else a0; let t25 := if t24 < 0 then t24 else 0; let t26 := if t22 < a1 then t22 else a1; let t27 := if t26 > 0 then t26 else 0; A.ref_Rem.p0 k a0 a1 b0 b1 t1 t2 t3 t4 t5 t6 t7 t8 t9 t10 t11 t12 t13 t14 t15 t16 t17 t18 t19 t20 t21 t22 t23 t24 t25 t26 t27 h
theorem A.ref_Rem.r (a0 : Int) (a1 : Int) (b0 : Int) (b1 : Int) : runF P G (tab L_A.ref_far) { merge := true } 60 Tryz.f91 [.agg #[.int .i64 a0, .int .i64 a1], .agg #[.int .i64 b0, .int .i64 b1]] = A.ref_Rem.c none (fun q => some (.tuple #[.agg #[.int .i64 (q).1, .int .i64 (q).2.1], .bool (q).2.2] : Value)) a0 a1 b0 b1 := by kernel_rfl
theorem A.ref_Rem.t : TabOK P G (tab L_A.ref_Rem) :=
  TabOK_mk C A.ref_far.t Tryz.func91 (by kernel_rfl) true 60 (by
    rintro ⟨⟨a0, ⟨a1, ⟨⟩⟩⟩, ⟨⟨b0, ⟨b1, ⟨⟩⟩⟩, ⟨⟩⟩⟩ h
    exact (A.ref_Rem.r a0 a1 b0 b1).trans (A.ref_Rem.p (fun q => (.tuple #[.agg #[.int .i64 (q).1, .int .i64 (q).2.1], .bool (q).2.2] : Value)) a0 a1 b0 b1 h))

end
end Go.Proofs.YtonpbbhlmapbdaaGreatDoor.V
