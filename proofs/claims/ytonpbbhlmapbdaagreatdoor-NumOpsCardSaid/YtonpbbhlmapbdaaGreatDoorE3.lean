/- What the functions of this seat compute, told by evaluation of their code. Conditions: none. -/
import Derived.Test.YtonpbbhlmapbdaaGreatDoorE2
set_option linter.unusedVariables false
set_option linter.unusedSimpArgs false
namespace Go.Proofs.YtonpbbhlmapbdaaGreatDoor.V
open Go Go.Wk
noncomputable section
def A.ival_Div.c0 {γ : Type} (k : Int × Int × Bool → γ) (a0 : Int) (a1 : Int) (b0 : Int) (b1 : Int) (t1 : Bool) (t2 : Bool) (t3 : Bool) (t4 : Bool) (t5 : Int × Int) (t6 : Bool) (t7 : Int × Int) (t8 : Bool) (t9 : Int × Int) (t10 : Int × Int) (t11 : Int × Int) (t12 : Int × Int) (t13 : Int × Int) (t14 : Int × Int) (t15 : Int × Int) (t16 : Int × Int) (t17 : Int × Int) (t18 : Int × Int) (t19 : Int × Int) (t20 : Int × Int) (t21 : Int × Int) (t22 : Int × Int) (t23 : Int × Int) (t24 : Int × Int) (t25 : Int × Int) (t26 : Int × Int) (t27 : Int × Int) (t28 : Int × Int) : γ := bif t1
  then k (1, 0, true)
  else bif t2
   then k (1, 0, true)
   else bif t3
    then bif t4
     then bif t6
      then bif t4
       then bif t8
        then k (t20.fst, t20.snd, !t4)
        else k (t22.fst, t22.snd, !t4)
       else k (t22.fst, t22.snd, !t4)
      else bif t4
       then bif t8
        then k (t27.fst, t27.snd, !t4)
        else k (t28.fst, t28.snd, !t4)
       else k (t28.fst, t28.snd, !t4)
     else bif t4
      then bif t8
       then k (t27.fst, t27.snd, !t4)
       else k (t28.fst, t28.snd, !t4)
      else k (t28.fst, t28.snd, !t4)
    else k (t28.fst, t28.snd, !false)
def A.ival_Div.c {γ : Type} (k : Int × Int × Bool → γ) (a0 : Int) (a1 : Int) (b0 : Int) (b1 : Int) : γ := let t1 := A.ival_none a0 a1; let t2 := A.ival_none b0 b1; let t3 := A.ival_Has a0 a1 (-9223372036854775808); let t4 := A.ival_Has b0 b1 (-1); let t5 := A.ival_under b0 b1; let t6 := A.ival_Has t5.fst t5.snd (-1); let t7 := A.ival_over b0 b1; let t8 := A.ival_Has t7.fst t7.snd (-1); let t9 := A.ival_Join 1 0 (-9223372036854775808) (-9223372036854775808); let t10 := A.ival_Meet a0 a1 (-9223372036854775807) 9223372036854775807; let t11 := A.ival_cornersQ t10.fst t10.snd (-1) (-1); let t12 := A.ival_Join t9.fst t9.snd t11.fst t11.snd; let t13 := A.ival_Meet t5.fst t5.snd (-9223372036854775808) (-2); let t14 := A.ival_cornersQ a0 a1 t13.fst t13.snd; let t15 := A.ival_Join t12.fst t12.snd t14.fst t14.snd; let t16 := A.ival_Join t15.fst t15.snd (-9223372036854775808) (-9223372036854775808); let t17 := A.ival_Join t16.fst t16.snd t11.fst t11.snd; let t18 := A.ival_Meet t7.fst t7.snd (-9223372036854775808) (-2); let t19 := A.ival_cornersQ a0 a1 t18.fst t18.snd; let t20 := A.ival_Join t17.fst t17.snd t19.fst t19.snd; let t21 := A.ival_cornersQ a0 a1 t7.fst t7.snd; let t22 := A.ival_Join t15.fst t15.snd t21.fst t21.snd; let t23 := A.ival_cornersQ a0 a1 t5.fst t5.snd; let t24 := A.ival_Join 1 0 t23.fst t23.snd; let t25 := A.ival_Join t24.fst t24.snd (-9223372036854775808) (-9223372036854775808); let t26 := A.ival_Join t25.fst t25.snd t11.fst t11.snd; let t27 := A.ival_Join t26.fst t26.snd t19.fst t19.snd; let t28 := A.ival_Join t24.fst t24.snd t21.fst t21.snd; A.ival_Div.c0 k a0 a1 b0 b1 t1 t2 t3 t4 t5 t6 t7 t8 t9 t10 t11 t12 t13 t14 t15 t16 t17 t18 t19 t20 t21 t22 t23 t24 t25 t26 t27 t28
def A.ival_Div (a0 : Int) (a1 : Int) (b0 : Int) (b1 : Int) : Int × Int × Bool := A.ival_Div.c id a0 a1 b0 b1
def A.ival_Div.F : FV := mkF (cP (cA (cP (cI .i64) (cP (cI .i64) cU))) (cP (cA (cP (cI .i64) (cP (cI .i64) cU))) cU)) (fun _ => true) (fun | ((a0, (a1, ())), ((b0, (b1, ())), ())) => .tuple #[.agg #[.int .i64 (A.ival_Div a0 a1 b0 b1).1, .int .i64 (A.ival_Div a0 a1 b0 b1).2.1], .bool (A.ival_Div a0 a1 b0 b1).2.2])
def L_A.ival_Div : TL := (124, A.ival_Div.F) :: L_A.ival_cornersQ
theorem A.ival_Div.p0 {γ : Type} (k : Int × Int × Bool → γ) (a0 : Int) (a1 : Int) (b0 : Int) (b1 : Int) (t1 : Bool) (t2 : Bool) (t3 : Bool) (t4 : Bool) (t5 : Int × Int) (t6 : Bool) (t7 : Int × Int) (t8 : Bool) (t9 : Int × Int) (t10 : Int × Int) (t11 : Int × Int) (t12 : Int × Int) (t13 : Int × Int) (t14 : Int × Int) (t15 : Int × Int) (t16 : Int × Int) (t17 : Int × Int) (t18 : Int × Int) (t19 : Int × Int) (t20 : Int × Int) (t21 : Int × Int) (t22 : Int × Int) (t23 : Int × Int) (t24 : Int × Int) (t25 : Int × Int) (t26 : Int × Int) (t27 : Int × Int) (t28 : Int × Int) : A.ival_Div.c0 k a0 a1 b0 b1 t1 t2 t3 t4 t5 t6 t7 t8 t9 t10 t11 t12 t13 t14 t15 t16 t17 t18 t19 t20 t21 t22 t23 t24 t25 t26 t27 t28 = k (A.ival_Div.c0 id a0 a1 b0 b1 t1 t2 t3 t4 t5 t6 t7 t8 t9 t10 t11 t12 t13 t14 t15 t16 t17 t18 t19 t20 t21 t22 t23 t24 t25 t26 t27 t28) := by
  unfold A.ival_Div.c0; (repeat' (first | (apply pc k) | (exact rfl)))
theorem A.ival_Div.p {γ : Type} (k : Int × Int × Bool → γ) (a0 : Int) (a1 : Int) (b0 : Int) (b1 : Int) : A.ival_Div.c k a0 a1 b0 b1 = k (A.ival_Div a0 a1 b0 b1) :=
  let t1 := A.ival_none a0 a1; let t2 := A.ival_none b0 b1; let t3 := A.ival_Has a0 a1 (-9223372036854775808); let t4 := A.ival_Has b0 b1 (-1); let t5 := A.ival_under b0 b1; let t6 := A.ival_Has t5.fst t5.snd (-1); let t7 := A.ival_over b0 b1; let t8 := A.ival_Has t7.fst t7.snd (-1); let t9 := A.ival_Join 1 0 (-9223372036854775808) (-9223372036854775808); let t10 := A.ival_Meet a0 a1 (-9223372036854775807) 9223372036854775807; let t11 := A.ival_cornersQ t10.fst t10.snd (-1) (-1); let t12 := A.ival_Join t9.fst t9.snd t11.fst t11.snd; let t13 := A.ival_Meet t5.fst t5.snd (-9223372036854775808) (-2); let t14 := A.ival_cornersQ a0 a1 t13.fst t13.snd; let t15 := A.ival_Join t12.fst t12.snd t14.fst t14.snd; let t16 := A.ival_Join t15.fst t15.snd (-9223372036854775808) (-9223372036854775808); let t17 := A.ival_Join t16.fst t16.snd t11.fst t11.snd; let t18 := A.ival_Meet t7.fst t7.snd (-9223372036854775808) (-2); let t19 := A.ival_cornersQ a0 a1 t18.fst t18.snd; let t20 := A.ival_Join t17.fst t17.snd t19.fst t19.snd; let t21 := A.ival_cornersQ a0 a1 t7.fst t7.snd; let t22 := A.ival_Join t15.fst t15.snd t21.fst t21.snd; let t23 := A.ival_cornersQ a0 a1 t5.fst t5.snd; let t24 := A.ival_Join 1 0 t23.fst t23.snd; let t25 := A.ival_Join t24.fst t24.snd (-9223372036854775808) (-9223372036854775808); let t26 := A.ival_Join t25.fst t25.snd t11.fst t11.snd; let t27 := A.ival_Join t26.fst t26.snd t19.fst t19.snd; let t28 := A.ival_Join t24.fst t24.snd t21.fst t21.snd; A.ival_Div.p0 k a0 a1 b0 b1 t1 t2 t3 t4 t5 t6 t7 t8 t9 t10 t11 t12 t13 t14 t15 t16 t17 t18 t19 t20 t21 t22 t23 t24 t25 t26 t27 t28
theorem A.ival_Div.r (a0 : Int) (a1 : Int) (b0 : Int) (b1 : Int) : runF P G (tab L_A.ival_cornersQ) { merge := true } 60 Tryz.f124 [.agg #[.int .i64 a0, .int .i64 a1], .agg #[.int .i64 b0, .int .i64 b1]] = A.ival_Div.c (fun q => some (.tuple #[.agg #[.int .i64 (q).1, .int .i64 (q).2.1], .bool (q).2.2] : Value)) a0 a1 b0 b1 := by kernel_rfl
theorem A.ival_Div.t : TabOK P G (tab L_A.ival_Div) :=
  TabOK_mk C A.ival_cornersQ.t Tryz.func124 (by kernel_rfl) true 60 (by
    rintro ⟨⟨a0, ⟨a1, ⟨⟩⟩⟩, ⟨⟨b0, ⟨b1, ⟨⟩⟩⟩, ⟨⟩⟩⟩ h
    exact (A.ival_Div.r a0 a1 b0 b1).trans (A.ival_Div.p (fun q => some (.tuple #[.agg #[.int .i64 (q).1, .int .i64 (q).2.1], .bool (q).2.2] : Value)) a0 a1 b0 b1))
def A.ival_Rem.c0 {γ : Type} (k : Int × Int × Bool → γ) (a0 : Int) (a1 : Int) (b0 : Int) (b1 : Int) (t1 : Bool) (t2 : Bool) (t3 : Int × Int) (t4 : Bool) (t5 : Int × Int) (t6 : Bool) (t7 : Bool) (t8 : Bool) (t9 : Int × Bool) (t10 : Int) (t11 : Int) (t12 : Int) (t13 : Int) (t14 : Int) (t15 : Int) (t16 : Int) (t17 : Int) (t18 : Int) (t19 : Int) (t20 : Int) (t21 : Int) (t22 : Int) (t23 : Int) (t24 : Int) (t25 : Int) (t26 : Int) (t27 : Int) (t28 : Int) (t29 : Int) (t30 : Int) (t31 : Int) (t32 : Int) (t33 : Int) : γ := bif t1
  then k (1, 0, true)
  else bif t2
   then k (1, 0, true)
   else bif t4
    then bif t6
     then k (1, 0, true)
     else bif t7
      then bif t8
       then k (t9.fst, t9.fst, true)
       else bif decide (t12 < t22)
        then k (a0, a1, true)
        else bif decide (a0 < 0)
         then bif decide (a1 > 0)
          then k (t32, t33, true)
          else k (t32, 0, true)
         else bif decide (a1 > 0)
          then k (0, t33, true)
          else k (0, 0, true)
      else bif decide (t12 < t22)
       then k (a0, a1, true)
       else bif decide (a0 < 0)
        then bif decide (a1 > 0)
         then k (t32, t33, true)
         else k (t32, 0, true)
        else bif decide (a1 > 0)
         then k (0, t33, true)
         else k (0, 0, true)
    else bif t7
     then bif t8
      then k (t9.fst, t9.fst, true)
      else bif decide (t12 < t22)
       then k (a0, a1, true)
       else bif decide (a0 < 0)
        then bif decide (a1 > 0)
         then k (t32, t33, true)
         else k (t32, 0, true)
        else bif decide (a1 > 0)
         then k (0, t33, true)
         else k (0, 0, true)
     else bif decide (t12 < t22)
      then k (a0, a1, true)
      else bif decide (a0 < 0)
       then bif decide (a1 > 0)
        then k (t32, t33, true)
        else k (t32, 0, true)
       else bif decide (a1 > 0)
        then k (0, t33, true)
        else k (0, 0, true)
def A.ival_Rem.c {γ : Type} (k : Int × Int × Bool → γ) (a0 : Int) (a1 : Int) (b0 : Int) (b1 : Int) : γ := let t1 := A.ival_none a0 a1; let t2 := A.ival_none b0 b1; let t3 := A.ival_under b0 b1; let t4 := A.ival_none t3.fst t3.snd; let t5 := A.ival_over b0 b1; let t6 := A.ival_none t5.fst t5.snd; let t7 := A.ival_one a0 a1; let t8 := A.ival_one b0 b1; let t9 := word_Rem a0 b0; let t10 := A.ival_distance a1; let t11 := A.ival_distance a0; let t12 := if t10 > t11 then t10 else t11; let t13 := A.ival_distance t5.snd; let t14 := A.ival_distance t5.fst; let t15 := A.ival_distance t3.snd; let t16 := A.ival_distance t3.fst; let t17 := if t16 < 18446744073709551615 then t16 else 18446744073709551615; let t18 := if t15 < t17 then t15 else t17; let t19 := bif !t4 then t18 else 18446744073709551615; let t20 := if t14 < t19 then t14 else t19; let t21 := if t13 < t20 then t13 else t20; let t22 := bif !t6 then t21 else t19; let t23 := if t16 > 0 then t16 else 0; let t24 := if t15 > t23 then t15 else t23; let t25 := bif !t4 then t24 else 0; let t26 := if t14 > t25 then t14 else t25; let t27 := if t13 > t26 then t13 else t26; let t28 := bif !t6 then t27 else t25; let t29 := IntKind.u64.wrap (t28 - 1); let t30 := IntKind.i64.wrap t29; let t31 := IntKind.i64.wrap (0 - t30); let t32 := if t31 > a0 then t31 else a0; let t33 := if t30 < a1 then t30 else a1; A.ival_Rem.c0 k a0 a1 b0 b1 t1 t2 t3 t4 t5 t6 t7 t8 t9 t10 t11 t12 t13 t14 t15 t16 t17 t18 t19 t20 t21 t22 t23 t24 t25 t26 t27 t28 t29 t30 t31 t32 t33
def A.ival_Rem (a0 : Int) (a1 : Int) (b0 : Int) (b1 : Int) : Int × Int × Bool := A.ival_Rem.c id a0 a1 b0 b1
def A.ival_Rem.F : FV := mkF (cP (cA (cP (cI .i64) (cP (cI .i64) cU))) (cP (cA (cP (cI .i64) (cP (cI .i64) cU))) cU)) (fun _ => true) (fun | ((a0, (a1, ())), ((b0, (b1, ())), ())) => .tuple #[.agg #[.int .i64 (A.ival_Rem a0 a1 b0 b1).1, .int .i64 (A.ival_Rem a0 a1 b0 b1).2.1], .bool (A.ival_Rem a0 a1 b0 b1).2.2])
def L_A.ival_Rem : TL := (127, A.ival_Rem.F) :: L_A.ival_Div
theorem A.ival_Rem.p0 {γ : Type} (k : Int × Int × Bool → γ) (a0 : Int) (a1 : Int) (b0 : Int) (b1 : Int) (t1 : Bool) (t2 : Bool) (t3 : Int × Int) (t4 : Bool) (t5 : Int × Int) (t6 : Bool) (t7 : Bool) (t8 : Bool) (t9 : Int × Bool) (t10 : Int) (t11 : Int) (t12 : Int) (t13 : Int) (t14 : Int) (t15 : Int) (t16 : Int) (t17 : Int) (t18 : Int) (t19 : Int) (t20 : Int) (t21 : Int) (t22 : Int) (t23 : Int) (t24 : Int) (t25 : Int) (t26 : Int) (t27 : Int) (t28 : Int) (t29 : Int) (t30 : Int) (t31 : Int) (t32 : Int) (t33 : Int) : A.ival_Rem.c0 k a0 a1 b0 b1 t1 t2 t3 t4 t5 t6 t7 t8 t9 t10 t11 t12 t13 t14 t15 t16 t17 t18 t19 t20 t21 t22 t23 t24 t25 t26 t27 t28 t29 t30 t31 t32 t33 = k (A.ival_Rem.c0 id a0 a1 b0 b1 t1 t2 t3 t4 t5 t6 t7 t8 t9 t10 t11 t12 t13 t14 t15 t16 t17 t18 t19 t20 t21 t22 t23 t24 t25 t26 t27 t28 t29 t30 t31 t32 t33) := by
  unfold A.ival_Rem.c0; (repeat' (first | (apply pc k) | (exact rfl)))
theorem A.ival_Rem.p {γ : Type} (k : Int × Int × Bool → γ) (a0 : Int) (a1 : Int) (b0 : Int) (b1 : Int) : A.ival_Rem.c k a0 a1 b0 b1 = k (A.ival_Rem a0 a1 b0 b1) :=
  let t1 := A.ival_none a0 a1; let t2 := A.ival_none b0 b1; let t3 := A.ival_under b0 b1; let t4 := A.ival_none t3.fst t3.snd; let t5 := A.ival_over b0 b1; let t6 := A.ival_none t5.fst t5.snd; let t7 := A.ival_one a0 a1; let t8 := A.ival_one b0 b1; let t9 := word_Rem a0 b0; let t10 := A.ival_distance a1; let t11 := A.ival_distance a0; let t12 := if t10 > t11 then t10 else t11; let t13 := A.ival_distance t5.snd; let t14 := A.ival_distance t5.fst; let t15 := A.ival_distance t3.snd; let t16 := A.ival_distance t3.fst; let t17 := if t16 < 18446744073709551615 then t16 else 18446744073709551615; let t18 := if t15 < t17 then t15 else t17; let t19 := bif !t4 then t18 else 18446744073709551615; let t20 := if t14 < t19 then t14 else t19; let t21 := if t13 < t20 then t13 else t20; let t22 := bif !t6 then t21 else t19; let t23 := if t16 > 0 then t16 else 0; let t24 := if t15 > t23 then t15 else t23; let t25 := bif !t4 then t24 else 0; let t26 := if t14 > t25 then t14 else t25; let t27 := if t13 > t26 then t13 else t26; let t28 := bif !t6 then t27 else t25; let t29 := IntKind.u64.wrap (t28 - 1); let t30 := IntKind.i64.wrap t29; let t31 := IntKind.i64.wrap (0 - t30); let t32 := if t31 > a0 then t31 else a0; let t33 := if t30 < a1 then t30 else a1; A.ival_Rem.p0 k a0 a1 b0 b1 t1 t2 t3 t4 t5 t6 t7 t8 t9 t10 t11 t12 t13 t14 t15 t16 t17 t18 t19 t20 t21 t22 t23 t24 t25 t26 t27 t28 t29 t30 t31 t32 t33
theorem A.ival_Rem.r (a0 : Int) (a1 : Int) (b0 : Int) (b1 : Int) : runF P G (tab L_A.ival_Div) { merge := true } 60 Tryz.f127 [.agg #[.int .i64 a0, .int .i64 a1], .agg #[.int .i64 b0, .int .i64 b1]] = A.ival_Rem.c (fun q => some (.tuple #[.agg #[.int .i64 (q).1, .int .i64 (q).2.1], .bool (q).2.2] : Value)) a0 a1 b0 b1 := by kernel_rfl
theorem A.ival_Rem.t : TabOK P G (tab L_A.ival_Rem) :=
  TabOK_mk C A.ival_Div.t Tryz.func127 (by kernel_rfl) true 60 (by
    rintro ⟨⟨a0, ⟨a1, ⟨⟩⟩⟩, ⟨⟨b0, ⟨b1, ⟨⟩⟩⟩, ⟨⟩⟩⟩ h
    exact (A.ival_Rem.r a0 a1 b0 b1).trans (A.ival_Rem.p (fun q => some (.tuple #[.agg #[.int .i64 (q).1, .int .i64 (q).2.1], .bool (q).2.2] : Value)) a0 a1 b0 b1))
def A.ref_Of.c0 {γ : Type} (k : Int × Int → γ) (a : Int) (t1 : Int) : γ := k (a.fdiv (2 ^ min (Int.toNat 63) IntKind.i64.bits), t1)
def A.ref_Of.c {γ : Type} (k : Int × Int → γ) (a : Int) : γ := let t1 := IntKind.u64.wrap a; A.ref_Of.c0 k a t1
def A.ref_Of (a : Int) : Int × Int := A.ref_Of.c id a
def A.ref_Of.F : FV := mkF (cP (cI .i64) cU) (fun _ => true) (fun | (a, ()) => .agg #[.int .i64 (A.ref_Of a).1, .int .u64 (A.ref_Of a).2])
def L_A.ref_Of : TL := (159, A.ref_Of.F) :: L_A.ival_Rem
theorem A.ref_Of.p0 {γ : Type} (k : Int × Int → γ) (a : Int) (t1 : Int) : A.ref_Of.c0 k a t1 = k (A.ref_Of.c0 id a t1) := by
  unfold A.ref_Of.c0; (repeat' (first | (apply pc k) | (exact rfl)))
theorem A.ref_Of.p {γ : Type} (k : Int × Int → γ) (a : Int) : A.ref_Of.c k a = k (A.ref_Of a) :=
  let t1 := IntKind.u64.wrap a; A.ref_Of.p0 k a t1
theorem A.ref_Of.r (a : Int) : runF P G (tab L_A.ival_Rem) { merge := true } 60 Tryz.f159 [.int .i64 a] = A.ref_Of.c (fun q => some (.agg #[.int .i64 (q).1, .int .u64 (q).2] : Value)) a := by kernel_rfl
theorem A.ref_Of.t : TabOK P G (tab L_A.ref_Of) :=
  TabOK_mk C A.ival_Rem.t Tryz.func159 (by kernel_rfl) true 60 (by
    rintro ⟨a, ⟨⟩⟩ h
    exact (A.ref_Of.r a).trans (A.ref_Of.p (fun q => some (.agg #[.int .i64 (q).1, .int .u64 (q).2] : Value)) a))
def A.ref_plus.c0 {γ : Type} (k : Int × Int → γ) (a0 : Int) (a1 : Int) (b0 : Int) (b1 : Int) (t1 : Int) (t2 : Int) (t3 : Int) : γ := bif decide (t1 < a1)
  then k (t3, t1)
  else k (t2, t1)
def A.ref_plus.c {γ : Type} (k : Int × Int → γ) (a0 : Int) (a1 : Int) (b0 : Int) (b1 : Int) : γ := let t1 := IntKind.u64.wrap (a1 + b1); let t2 := IntKind.i64.wrap (a0 + b0); let t3 := IntKind.i64.wrap (t2 + 1); A.ref_plus.c0 k a0 a1 b0 b1 t1 t2 t3
def A.ref_plus (a0 : Int) (a1 : Int) (b0 : Int) (b1 : Int) : Int × Int := A.ref_plus.c id a0 a1 b0 b1
def A.ref_plus.F : FV := mkF (cP (cA (cP (cI .i64) (cP (cI .u64) cU))) (cP (cA (cP (cI .i64) (cP (cI .u64) cU))) cU)) (fun _ => true) (fun | ((a0, (a1, ())), ((b0, (b1, ())), ())) => .agg #[.int .i64 (A.ref_plus a0 a1 b0 b1).1, .int .u64 (A.ref_plus a0 a1 b0 b1).2])
def L_A.ref_plus : TL := (161, A.ref_plus.F) :: L_A.ref_Of
theorem A.ref_plus.p0 {γ : Type} (k : Int × Int → γ) (a0 : Int) (a1 : Int) (b0 : Int) (b1 : Int) (t1 : Int) (t2 : Int) (t3 : Int) : A.ref_plus.c0 k a0 a1 b0 b1 t1 t2 t3 = k (A.ref_plus.c0 id a0 a1 b0 b1 t1 t2 t3) := by
  unfold A.ref_plus.c0; (repeat' (first | (apply pc k) | (exact rfl)))
theorem A.ref_plus.p {γ : Type} (k : Int × Int → γ) (a0 : Int) (a1 : Int) (b0 : Int) (b1 : Int) : A.ref_plus.c k a0 a1 b0 b1 = k (A.ref_plus a0 a1 b0 b1) :=
  let t1 := IntKind.u64.wrap (a1 + b1); let t2 := IntKind.i64.wrap (a0 + b0); let t3 := IntKind.i64.wrap (t2 + 1); A.ref_plus.p0 k a0 a1 b0 b1 t1 t2 t3
theorem A.ref_plus.r (a0 : Int) (a1 : Int) (b0 : Int) (b1 : Int) : runF P G (tab L_A.ref_Of) { merge := true } 60 Tryz.f161 [.agg #[.int .i64 a0, .int .u64 a1], .agg #[.int .i64 b0, .int .u64 b1]] = A.ref_plus.c (fun q => some (.agg #[.int .i64 (q).1, .int .u64 (q).2] : Value)) a0 a1 b0 b1 := by kernel_rfl
theorem A.ref_plus.t : TabOK P G (tab L_A.ref_plus) :=
  TabOK_mk C A.ref_Of.t Tryz.func161 (by kernel_rfl) true 60 (by
    rintro ⟨⟨a0, ⟨a1, ⟨⟩⟩⟩, ⟨⟨b0, ⟨b1, ⟨⟩⟩⟩, ⟨⟩⟩⟩ h
    exact (A.ref_plus.r a0 a1 b0 b1).trans (A.ref_plus.p (fun q => some (.agg #[.int .i64 (q).1, .int .u64 (q).2] : Value)) a0 a1 b0 b1))
def A.ref_minus.c0 {γ : Type} (k : Int × Int → γ) (a0 : Int) (a1 : Int) (b0 : Int) (b1 : Int) (t1 : Int) (t2 : Int) (t3 : Int) : γ := bif decide (a1 < b1)
  then k (t2, t3)
  else k (t1, t3)
def A.ref_minus.c {γ : Type} (k : Int × Int → γ) (a0 : Int) (a1 : Int) (b0 : Int) (b1 : Int) : γ := let t1 := IntKind.i64.wrap (a0 - b0); let t2 := IntKind.i64.wrap (t1 - 1); let t3 := IntKind.u64.wrap (a1 - b1); A.ref_minus.c0 k a0 a1 b0 b1 t1 t2 t3
def A.ref_minus (a0 : Int) (a1 : Int) (b0 : Int) (b1 : Int) : Int × Int := A.ref_minus.c id a0 a1 b0 b1
def A.ref_minus.F : FV := mkF (cP (cA (cP (cI .i64) (cP (cI .u64) cU))) (cP (cA (cP (cI .i64) (cP (cI .u64) cU))) cU)) (fun _ => true) (fun | ((a0, (a1, ())), ((b0, (b1, ())), ())) => .agg #[.int .i64 (A.ref_minus a0 a1 b0 b1).1, .int .u64 (A.ref_minus a0 a1 b0 b1).2])
def L_A.ref_minus : TL := (158, A.ref_minus.F) :: L_A.ref_plus
theorem A.ref_minus.p0 {γ : Type} (k : Int × Int → γ) (a0 : Int) (a1 : Int) (b0 : Int) (b1 : Int) (t1 : Int) (t2 : Int) (t3 : Int) : A.ref_minus.c0 k a0 a1 b0 b1 t1 t2 t3 = k (A.ref_minus.c0 id a0 a1 b0 b1 t1 t2 t3) := by
  unfold A.ref_minus.c0; (repeat' (first | (apply pc k) | (exact rfl)))
theorem A.ref_minus.p {γ : Type} (k : Int × Int → γ) (a0 : Int) (a1 : Int) (b0 : Int) (b1 : Int) : A.ref_minus.c k a0 a1 b0 b1 = k (A.ref_minus a0 a1 b0 b1) :=
  let t1 := IntKind.i64.wrap (a0 - b0); let t2 := IntKind.i64.wrap (t1 - 1); let t3 := IntKind.u64.wrap (a1 - b1); A.ref_minus.p0 k a0 a1 b0 b1 t1 t2 t3
theorem A.ref_minus.r (a0 : Int) (a1 : Int) (b0 : Int) (b1 : Int) : runF P G (tab L_A.ref_plus) { merge := true } 60 Tryz.f158 [.agg #[.int .i64 a0, .int .u64 a1], .agg #[.int .i64 b0, .int .u64 b1]] = A.ref_minus.c (fun q => some (.agg #[.int .i64 (q).1, .int .u64 (q).2] : Value)) a0 a1 b0 b1 := by kernel_rfl
theorem A.ref_minus.t : TabOK P G (tab L_A.ref_minus) :=
  TabOK_mk C A.ref_plus.t Tryz.func158 (by kernel_rfl) true 60 (by
    rintro ⟨⟨a0, ⟨a1, ⟨⟩⟩⟩, ⟨⟨b0, ⟨b1, ⟨⟩⟩⟩, ⟨⟩⟩⟩ h
    exact (A.ref_minus.r a0 a1 b0 b1).trans (A.ref_minus.p (fun q => some (.agg #[.int .i64 (q).1, .int .u64 (q).2] : Value)) a0 a1 b0 b1))
def A.ref_less.c {γ : Type} (k : Bool → γ) (a0 : Int) (a1 : Int) (b0 : Int) (b1 : Int) : γ := bif decide (a0 < b0)
  then k (true)
  else bif a0 == b0
   then k (decide (a1 < b1))
   else k (false)
def A.ref_less (a0 : Int) (a1 : Int) (b0 : Int) (b1 : Int) : Bool := A.ref_less.c id a0 a1 b0 b1
def A.ref_less.F : FV := mkF (cP (cA (cP (cI .i64) (cP (cI .u64) cU))) (cP (cA (cP (cI .i64) (cP (cI .u64) cU))) cU)) (fun _ => true) (fun | ((a0, (a1, ())), ((b0, (b1, ())), ())) => .bool (A.ref_less a0 a1 b0 b1))
def L_A.ref_less : TL := (164, A.ref_less.F) :: L_A.ref_minus
theorem A.ref_less.p {γ : Type} (k : Bool → γ) (a0 : Int) (a1 : Int) (b0 : Int) (b1 : Int) : A.ref_less.c k a0 a1 b0 b1 = k (A.ref_less a0 a1 b0 b1) := by
  unfold A.ref_less A.ref_less.c; (repeat' (first | (apply pc k) | (exact rfl)))
theorem A.ref_less.r (a0 : Int) (a1 : Int) (b0 : Int) (b1 : Int) : runF P G (tab L_A.ref_minus) { merge := true } 60 Tryz.f164 [.agg #[.int .i64 a0, .int .u64 a1], .agg #[.int .i64 b0, .int .u64 b1]] = A.ref_less.c (fun q => some (.bool (q) : Value)) a0 a1 b0 b1 := by kernel_rfl
theorem A.ref_less.t : TabOK P G (tab L_A.ref_less) :=
  TabOK_mk C A.ref_minus.t Tryz.func164 (by kernel_rfl) true 60 (by
    rintro ⟨⟨a0, ⟨a1, ⟨⟩⟩⟩, ⟨⟨b0, ⟨b1, ⟨⟩⟩⟩, ⟨⟩⟩⟩ h
    exact (A.ref_less.r a0 a1 b0 b1).trans (A.ref_less.p (fun q => some (.bool (q) : Value)) a0 a1 b0 b1))
def A.ref_Fits.c0 {γ : Type} (k : Bool → γ) (a0 : Int) (a1 : Int) (t1 : Int) : γ := k (a0 == t1.fdiv (2 ^ min (Int.toNat 63) IntKind.i64.bits))
def A.ref_Fits.c {γ : Type} (k : Bool → γ) (a0 : Int) (a1 : Int) : γ := let t1 := IntKind.i64.wrap a1; A.ref_Fits.c0 k a0 a1 t1
def A.ref_Fits (a0 : Int) (a1 : Int) : Bool := A.ref_Fits.c id a0 a1
def A.ref_Fits.F : FV := mkF (cP (cA (cP (cI .i64) (cP (cI .u64) cU))) cU) (fun _ => true) (fun | ((a0, (a1, ())), ()) => .bool (A.ref_Fits a0 a1))
def L_A.ref_Fits : TL := (165, A.ref_Fits.F) :: L_A.ref_less
theorem A.ref_Fits.p0 {γ : Type} (k : Bool → γ) (a0 : Int) (a1 : Int) (t1 : Int) : A.ref_Fits.c0 k a0 a1 t1 = k (A.ref_Fits.c0 id a0 a1 t1) := by
  unfold A.ref_Fits.c0; (repeat' (first | (apply pc k) | (exact rfl)))
theorem A.ref_Fits.p {γ : Type} (k : Bool → γ) (a0 : Int) (a1 : Int) : A.ref_Fits.c k a0 a1 = k (A.ref_Fits a0 a1) :=
  let t1 := IntKind.i64.wrap a1; A.ref_Fits.p0 k a0 a1 t1
theorem A.ref_Fits.r (a0 : Int) (a1 : Int) : runF P G (tab L_A.ref_less) { merge := true } 60 Tryz.f165 [.agg #[.int .i64 a0, .int .u64 a1]] = A.ref_Fits.c (fun q => some (.bool (q) : Value)) a0 a1 := by kernel_rfl
theorem A.ref_Fits.t : TabOK P G (tab L_A.ref_Fits) :=
  TabOK_mk C A.ref_less.t Tryz.func165 (by kernel_rfl) true 60 (by
    rintro ⟨⟨a0, ⟨a1, ⟨⟩⟩⟩, ⟨⟩⟩ h
    exact (A.ref_Fits.r a0 a1).trans (A.ref_Fits.p (fun q => some (.bool (q) : Value)) a0 a1))
def A.ref_span.c0 {γ : Type} (k : Int × Int × Bool → γ) (a0 : Int) (a1 : Int) (b0 : Int) (b1 : Int) (t1 : Bool) (t2 : Bool) (t3 : Int) (t4 : Int) (t5 : Int × Int) (t6 : Bool) : γ := bif t1
  then bif t2
   then k (t3, t4, true)
   else bif decide (t5.fst > 0)
    then k (-9223372036854775808, 9223372036854775807, false)
    else bif t5.snd == 18446744073709551615
     then k (-9223372036854775808, 9223372036854775807, false)
     else bif t6
      then k (-9223372036854775808, 9223372036854775807, false)
      else k (t3, t4, false)
  else bif decide (t5.fst > 0)
   then k (-9223372036854775808, 9223372036854775807, false)
   else bif t5.snd == 18446744073709551615
    then k (-9223372036854775808, 9223372036854775807, false)
    else bif t6
     then k (-9223372036854775808, 9223372036854775807, false)
     else k (t3, t4, false)
def A.ref_span.c {γ : Type} (k : Int × Int × Bool → γ) (a0 : Int) (a1 : Int) (b0 : Int) (b1 : Int) : γ := let t1 := A.ref_Fits a0 a1; let t2 := A.ref_Fits b0 b1; let t3 := IntKind.i64.wrap a1; let t4 := IntKind.i64.wrap b1; let t5 := A.ref_minus b0 b1 a0 a1; let t6 := A.ref_Empty t3 t4; A.ref_span.c0 k a0 a1 b0 b1 t1 t2 t3 t4 t5 t6
def A.ref_span (a0 : Int) (a1 : Int) (b0 : Int) (b1 : Int) : Int × Int × Bool := A.ref_span.c id a0 a1 b0 b1
def A.ref_span.F : FV := mkF (cP (cA (cP (cI .i64) (cP (cI .u64) cU))) (cP (cA (cP (cI .i64) (cP (cI .u64) cU))) cU)) (fun _ => true) (fun | ((a0, (a1, ())), ((b0, (b1, ())), ())) => .tuple #[.agg #[.int .i64 (A.ref_span a0 a1 b0 b1).1, .int .i64 (A.ref_span a0 a1 b0 b1).2.1], .bool (A.ref_span a0 a1 b0 b1).2.2])
def L_A.ref_span : TL := (157, A.ref_span.F) :: L_A.ref_Fits
theorem A.ref_span.p0 {γ : Type} (k : Int × Int × Bool → γ) (a0 : Int) (a1 : Int) (b0 : Int) (b1 : Int) (t1 : Bool) (t2 : Bool) (t3 : Int) (t4 : Int) (t5 : Int × Int) (t6 : Bool) : A.ref_span.c0 k a0 a1 b0 b1 t1 t2 t3 t4 t5 t6 = k (A.ref_span.c0 id a0 a1 b0 b1 t1 t2 t3 t4 t5 t6) := by
  unfold A.ref_span.c0; (repeat' (first | (apply pc k) | (exact rfl)))
theorem A.ref_span.p {γ : Type} (k : Int × Int × Bool → γ) (a0 : Int) (a1 : Int) (b0 : Int) (b1 : Int) : A.ref_span.c k a0 a1 b0 b1 = k (A.ref_span a0 a1 b0 b1) :=
  let t1 := A.ref_Fits a0 a1; let t2 := A.ref_Fits b0 b1; let t3 := IntKind.i64.wrap a1; let t4 := IntKind.i64.wrap b1; let t5 := A.ref_minus b0 b1 a0 a1; let t6 := A.ref_Empty t3 t4; A.ref_span.p0 k a0 a1 b0 b1 t1 t2 t3 t4 t5 t6
theorem A.ref_span.r (a0 : Int) (a1 : Int) (b0 : Int) (b1 : Int) : runF P G (tab L_A.ref_Fits) { merge := true } 60 Tryz.f157 [.agg #[.int .i64 a0, .int .u64 a1], .agg #[.int .i64 b0, .int .u64 b1]] = A.ref_span.c (fun q => some (.tuple #[.agg #[.int .i64 (q).1, .int .i64 (q).2.1], .bool (q).2.2] : Value)) a0 a1 b0 b1 := by kernel_rfl
theorem A.ref_span.t : TabOK P G (tab L_A.ref_span) :=
  TabOK_mk C A.ref_Fits.t Tryz.func157 (by kernel_rfl) true 60 (by
    rintro ⟨⟨a0, ⟨a1, ⟨⟩⟩⟩, ⟨⟨b0, ⟨b1, ⟨⟩⟩⟩, ⟨⟩⟩⟩ h
    exact (A.ref_span.r a0 a1 b0 b1).trans (A.ref_span.p (fun q => some (.tuple #[.agg #[.int .i64 (q).1, .int .i64 (q).2.1], .bool (q).2.2] : Value)) a0 a1 b0 b1))
def A.ref_Neg.c0 {γ : Type} (k : Int × Int × Bool → γ) (a0 : Int) (a1 : Int) (t1 : Bool) (t2 : Int × Int) (t3 : Int × Int) (t4 : Int × Int) (t5 : Int × Int) (t6 : Int × Int × Bool) : γ := bif t1
  then k (A.ref_None.fst, A.ref_None.snd, true)
  else k (t6.fst, t6.snd.fst, t6.snd.snd)
def A.ref_Neg.c {γ : Type} (k : Int × Int × Bool → γ) (a0 : Int) (a1 : Int) : γ := let t1 := A.ref_Empty a0 a1; let t2 := A.ref_Of a1; let t3 := A.ref_minus 0 0 t2.fst t2.snd; let t4 := A.ref_Of a0; let t5 := A.ref_minus 0 0 t4.fst t4.snd; let t6 := A.ref_span t3.fst t3.snd t5.fst t5.snd; A.ref_Neg.c0 k a0 a1 t1 t2 t3 t4 t5 t6
def A.ref_Neg (a0 : Int) (a1 : Int) : Int × Int × Bool := A.ref_Neg.c id a0 a1
def A.ref_Neg.F : FV := mkF (cP (cA (cP (cI .i64) (cP (cI .i64) cU))) cU) (fun _ => true) (fun | ((a0, (a1, ())), ()) => .tuple #[.agg #[.int .i64 (A.ref_Neg a0 a1).1, .int .i64 (A.ref_Neg a0 a1).2.1], .bool (A.ref_Neg a0 a1).2.2])
def L_A.ref_Neg : TL := (81, A.ref_Neg.F) :: L_A.ref_span
theorem A.ref_Neg.p0 {γ : Type} (k : Int × Int × Bool → γ) (a0 : Int) (a1 : Int) (t1 : Bool) (t2 : Int × Int) (t3 : Int × Int) (t4 : Int × Int) (t5 : Int × Int) (t6 : Int × Int × Bool) : A.ref_Neg.c0 k a0 a1 t1 t2 t3 t4 t5 t6 = k (A.ref_Neg.c0 id a0 a1 t1 t2 t3 t4 t5 t6) := by
  unfold A.ref_Neg.c0; (repeat' (first | (apply pc k) | (exact rfl)))
theorem A.ref_Neg.p {γ : Type} (k : Int × Int × Bool → γ) (a0 : Int) (a1 : Int) : A.ref_Neg.c k a0 a1 = k (A.ref_Neg a0 a1) :=
  let t1 := A.ref_Empty a0 a1; let t2 := A.ref_Of a1; let t3 := A.ref_minus 0 0 t2.fst t2.snd; let t4 := A.ref_Of a0; let t5 := A.ref_minus 0 0 t4.fst t4.snd; let t6 := A.ref_span t3.fst t3.snd t5.fst t5.snd; A.ref_Neg.p0 k a0 a1 t1 t2 t3 t4 t5 t6
theorem A.ref_Neg.r (a0 : Int) (a1 : Int) : runF P G (tab L_A.ref_span) { merge := true } 60 Tryz.f81 [.agg #[.int .i64 a0, .int .i64 a1]] = A.ref_Neg.c (fun q => some (.tuple #[.agg #[.int .i64 (q).1, .int .i64 (q).2.1], .bool (q).2.2] : Value)) a0 a1 := by kernel_rfl
theorem A.ref_Neg.t : TabOK P G (tab L_A.ref_Neg) :=
  TabOK_mk C A.ref_span.t Tryz.func81 (by kernel_rfl) true 60 (by
    rintro ⟨⟨a0, ⟨a1, ⟨⟩⟩⟩, ⟨⟩⟩ h
    exact (A.ref_Neg.r a0 a1).trans (A.ref_Neg.p (fun q => some (.tuple #[.agg #[.int .i64 (q).1, .int .i64 (q).2.1], .bool (q).2.2] : Value)) a0 a1))
def A.ref_Add.c0 {γ : Type} (k : Int × Int × Bool → γ) (a0 : Int) (a1 : Int) (b0 : Int) (b1 : Int) (t1 : Bool) (t2 : Bool) (t3 : Int × Int) (t4 : Int × Int) (t5 : Int × Int) (t6 : Int × Int) (t7 : Int × Int) (t8 : Int × Int) (t9 : Int × Int × Bool) : γ := bif t1
  then k (A.ref_None.fst, A.ref_None.snd, true)
  else bif t2
   then k (A.ref_None.fst, A.ref_None.snd, true)
   else k (t9.fst, t9.snd.fst, t9.snd.snd)
def A.ref_Add.c {γ : Type} (k : Int × Int × Bool → γ) (a0 : Int) (a1 : Int) (b0 : Int) (b1 : Int) : γ := let t1 := A.ref_Empty a0 a1; let t2 := A.ref_Empty b0 b1; let t3 := A.ref_Of a0; let t4 := A.ref_Of b0; let t5 := A.ref_plus t3.fst t3.snd t4.fst t4.snd; let t6 := A.ref_Of a1; let t7 := A.ref_Of b1; let t8 := A.ref_plus t6.fst t6.snd t7.fst t7.snd; let t9 := A.ref_span t5.fst t5.snd t8.fst t8.snd; A.ref_Add.c0 k a0 a1 b0 b1 t1 t2 t3 t4 t5 t6 t7 t8 t9
def A.ref_Add (a0 : Int) (a1 : Int) (b0 : Int) (b1 : Int) : Int × Int × Bool := A.ref_Add.c id a0 a1 b0 b1
def A.ref_Add.F : FV := mkF (cP (cA (cP (cI .i64) (cP (cI .i64) cU))) (cP (cA (cP (cI .i64) (cP (cI .i64) cU))) cU)) (fun _ => true) (fun | ((a0, (a1, ())), ((b0, (b1, ())), ())) => .tuple #[.agg #[.int .i64 (A.ref_Add a0 a1 b0 b1).1, .int .i64 (A.ref_Add a0 a1 b0 b1).2.1], .bool (A.ref_Add a0 a1 b0 b1).2.2])
def L_A.ref_Add : TL := (83, A.ref_Add.F) :: L_A.ref_Neg
theorem A.ref_Add.p0 {γ : Type} (k : Int × Int × Bool → γ) (a0 : Int) (a1 : Int) (b0 : Int) (b1 : Int) (t1 : Bool) (t2 : Bool) (t3 : Int × Int) (t4 : Int × Int) (t5 : Int × Int) (t6 : Int × Int) (t7 : Int × Int) (t8 : Int × Int) (t9 : Int × Int × Bool) : A.ref_Add.c0 k a0 a1 b0 b1 t1 t2 t3 t4 t5 t6 t7 t8 t9 = k (A.ref_Add.c0 id a0 a1 b0 b1 t1 t2 t3 t4 t5 t6 t7 t8 t9) := by
  unfold A.ref_Add.c0; (repeat' (first | (apply pc k) | (exact rfl)))
theorem A.ref_Add.p {γ : Type} (k : Int × Int × Bool → γ) (a0 : Int) (a1 : Int) (b0 : Int) (b1 : Int) : A.ref_Add.c k a0 a1 b0 b1 = k (A.ref_Add a0 a1 b0 b1) :=
  let t1 := A.ref_Empty a0 a1; let t2 := A.ref_Empty b0 b1; let t3 := A.ref_Of a0; let t4 := A.ref_Of b0; let t5 := A.ref_plus t3.fst t3.snd t4.fst t4.snd; let t6 := A.ref_Of a1; let t7 := A.ref_Of b1; let t8 := A.ref_plus t6.fst t6.snd t7.fst t7.snd; let t9 := A.ref_span t5.fst t5.snd t8.fst t8.snd; A.ref_Add.p0 k a0 a1 b0 b1 t1 t2 t3 t4 t5 t6 t7 t8 t9
theorem A.ref_Add.r (a0 : Int) (a1 : Int) (b0 : Int) (b1 : Int) : runF P G (tab L_A.ref_Neg) { merge := true } 60 Tryz.f83 [.agg #[.int .i64 a0, .int .i64 a1], .agg #[.int .i64 b0, .int .i64 b1]] = A.ref_Add.c (fun q => some (.tuple #[.agg #[.int .i64 (q).1, .int .i64 (q).2.1], .bool (q).2.2] : Value)) a0 a1 b0 b1 := by kernel_rfl
theorem A.ref_Add.t : TabOK P G (tab L_A.ref_Add) :=
  TabOK_mk C A.ref_Neg.t Tryz.func83 (by kernel_rfl) true 60 (by
    rintro ⟨⟨a0, ⟨a1, ⟨⟩⟩⟩, ⟨⟨b0, ⟨b1, ⟨⟩⟩⟩, ⟨⟩⟩⟩ h
    exact (A.ref_Add.r a0 a1 b0 b1).trans (A.ref_Add.p (fun q => some (.tuple #[.agg #[.int .i64 (q).1, .int .i64 (q).2.1], .bool (q).2.2] : Value)) a0 a1 b0 b1))
def A.ref_Sub.c0 {γ : Type} (k : Int × Int × Bool → γ) (a0 : Int) (a1 : Int) (b0 : Int) (b1 : Int) (t1 : Bool) (t2 : Bool) (t3 : Int × Int) (t4 : Int × Int) (t5 : Int × Int) (t6 : Int × Int) (t7 : Int × Int) (t8 : Int × Int) (t9 : Int × Int × Bool) : γ := bif t1
  then k (A.ref_None.fst, A.ref_None.snd, true)
  else bif t2
   then k (A.ref_None.fst, A.ref_None.snd, true)
   else k (t9.fst, t9.snd.fst, t9.snd.snd)
def A.ref_Sub.c {γ : Type} (k : Int × Int × Bool → γ) (a0 : Int) (a1 : Int) (b0 : Int) (b1 : Int) : γ := let t1 := A.ref_Empty a0 a1; let t2 := A.ref_Empty b0 b1; let t3 := A.ref_Of a0; let t4 := A.ref_Of b1; let t5 := A.ref_minus t3.fst t3.snd t4.fst t4.snd; let t6 := A.ref_Of a1; let t7 := A.ref_Of b0; let t8 := A.ref_minus t6.fst t6.snd t7.fst t7.snd; let t9 := A.ref_span t5.fst t5.snd t8.fst t8.snd; A.ref_Sub.c0 k a0 a1 b0 b1 t1 t2 t3 t4 t5 t6 t7 t8 t9
def A.ref_Sub (a0 : Int) (a1 : Int) (b0 : Int) (b1 : Int) : Int × Int × Bool := A.ref_Sub.c id a0 a1 b0 b1
def A.ref_Sub.F : FV := mkF (cP (cA (cP (cI .i64) (cP (cI .i64) cU))) (cP (cA (cP (cI .i64) (cP (cI .i64) cU))) cU)) (fun _ => true) (fun | ((a0, (a1, ())), ((b0, (b1, ())), ())) => .tuple #[.agg #[.int .i64 (A.ref_Sub a0 a1 b0 b1).1, .int .i64 (A.ref_Sub a0 a1 b0 b1).2.1], .bool (A.ref_Sub a0 a1 b0 b1).2.2])
def L_A.ref_Sub : TL := (85, A.ref_Sub.F) :: L_A.ref_Add
theorem A.ref_Sub.p0 {γ : Type} (k : Int × Int × Bool → γ) (a0 : Int) (a1 : Int) (b0 : Int) (b1 : Int) (t1 : Bool) (t2 : Bool) (t3 : Int × Int) (t4 : Int × Int) (t5 : Int × Int) (t6 : Int × Int) (t7 : Int × Int) (t8 : Int × Int) (t9 : Int × Int × Bool) : A.ref_Sub.c0 k a0 a1 b0 b1 t1 t2 t3 t4 t5 t6 t7 t8 t9 = k (A.ref_Sub.c0 id a0 a1 b0 b1 t1 t2 t3 t4 t5 t6 t7 t8 t9) := by
  unfold A.ref_Sub.c0; (repeat' (first | (apply pc k) | (exact rfl)))
theorem A.ref_Sub.p {γ : Type} (k : Int × Int × Bool → γ) (a0 : Int) (a1 : Int) (b0 : Int) (b1 : Int) : A.ref_Sub.c k a0 a1 b0 b1 = k (A.ref_Sub a0 a1 b0 b1) :=
  let t1 := A.ref_Empty a0 a1; let t2 := A.ref_Empty b0 b1; let t3 := A.ref_Of a0; let t4 := A.ref_Of b1; let t5 := A.ref_minus t3.fst t3.snd t4.fst t4.snd; let t6 := A.ref_Of a1; let t7 := A.ref_Of b0; let t8 := A.ref_minus t6.fst t6.snd t7.fst t7.snd; let t9 := A.ref_span t5.fst t5.snd t8.fst t8.snd; A.ref_Sub.p0 k a0 a1 b0 b1 t1 t2 t3 t4 t5 t6 t7 t8 t9
theorem A.ref_Sub.r (a0 : Int) (a1 : Int) (b0 : Int) (b1 : Int) : runF P G (tab L_A.ref_Add) { merge := true } 60 Tryz.f85 [.agg #[.int .i64 a0, .int .i64 a1], .agg #[.int .i64 b0, .int .i64 b1]] = A.ref_Sub.c (fun q => some (.tuple #[.agg #[.int .i64 (q).1, .int .i64 (q).2.1], .bool (q).2.2] : Value)) a0 a1 b0 b1 := by kernel_rfl
theorem A.ref_Sub.t : TabOK P G (tab L_A.ref_Sub) :=
  TabOK_mk C A.ref_Add.t Tryz.func85 (by kernel_rfl) true 60 (by
    rintro ⟨⟨a0, ⟨a1, ⟨⟩⟩⟩, ⟨⟨b0, ⟨b1, ⟨⟩⟩⟩, ⟨⟩⟩⟩ h
    exact (A.ref_Sub.r a0 a1 b0 b1).trans (A.ref_Sub.p (fun q => some (.tuple #[.agg #[.int .i64 (q).1, .int .i64 (q).2.1], .bool (q).2.2] : Value)) a0 a1 b0 b1))
def A.ref_far.c0 {γ : Type} (k : Int → γ) (a : Int) (t1 : Int) (t2 : Int) : γ := bif decide (a < 0)
  then k (t2)
  else k (t1)
def A.ref_far.c {γ : Type} (k : Int → γ) (a : Int) : γ := let t1 := IntKind.u64.wrap a; let t2 := IntKind.u64.wrap (0 - t1); A.ref_far.c0 k a t1 t2
def A.ref_far (a : Int) : Int := A.ref_far.c id a
def A.ref_far.F : FV := mkF (cP (cI .i64) cU) (fun _ => true) (fun | (a, ()) => .int .u64 (A.ref_far a))
def L_A.ref_far : TL := (168, A.ref_far.F) :: L_A.ref_Sub
theorem A.ref_far.p0 {γ : Type} (k : Int → γ) (a : Int) (t1 : Int) (t2 : Int) : A.ref_far.c0 k a t1 t2 = k (A.ref_far.c0 id a t1 t2) := by
  unfold A.ref_far.c0; (repeat' (first | (apply pc k) | (exact rfl)))
theorem A.ref_far.p {γ : Type} (k : Int → γ) (a : Int) : A.ref_far.c k a = k (A.ref_far a) :=
  let t1 := IntKind.u64.wrap a; let t2 := IntKind.u64.wrap (0 - t1); A.ref_far.p0 k a t1 t2
theorem A.ref_far.r (a : Int) : runF P G (tab L_A.ref_Sub) { merge := true } 60 Tryz.f168 [.int .i64 a] = A.ref_far.c (fun q => some (.int .u64 (q) : Value)) a := by kernel_rfl
theorem A.ref_far.t : TabOK P G (tab L_A.ref_far) :=
  TabOK_mk C A.ref_Sub.t Tryz.func168 (by kernel_rfl) true 60 (by
    rintro ⟨a, ⟨⟩⟩ h
    exact (A.ref_far.r a).trans (A.ref_far.p (fun q => some (.int .u64 (q) : Value)) a))
def A.ref_Times.val (q : Int × Int) : Value := .agg #[.int .i64 (q).1, .int .u64 (q).2]
def A.ref_Times.h : List (Nat × List Nat × Nat) := [(5, [4, 5, 6, 7, 8], 3)]
def A.ref_Times.e0 (q : Int × Int × Int × Int × Int × Int × Int × Int) : St := { tmps := [.unk, .unk, .unk, .unk, .ptr 0 0, .ptr 1 0, .ptr 2 0, .val (.int .u64 (q).1), .val (.int .i64 (q).2.1), .unk, .unk, .unk, .unk, .unk, .unk, .unk, .unk, .unk, .unk, .unk, .unk, .unk, .unk, .unk, .unk, .unk, .unk, .unk, .unk, .unk, .unk, .unk, .unk, .unk, .unk], blks := [some ⟨[.val (.int .i64 (q).2.2.1), .val (.int .u64 (q).2.2.2.1)], 140⟩, some ⟨[.val (.int .i64 (q).2.2.2.2.1), .val (.int .u64 (q).2.2.2.2.2.1)], 140⟩, some ⟨[.val (.int .i64 (q).2.2.2.2.2.2.1), .val (.int .u64 (q).2.2.2.2.2.2.2)], 140⟩], saved := [] }
noncomputable def A.ref_Times.B0 : Code := loopAt [1, 1, 1, 1, 0, 1, 0] (fbody Tryz.f163)
noncomputable def A.ref_Times.H (F0 : LSum) : Heads := { heads := A.ref_Times.h, merge := true, sums := [(5, F0)] }
noncomputable def A.ref_Times.H0  : Heads := { heads := A.ref_Times.h, merge := true, sums := [] }
noncomputable def A.ref_Times.K0 (F0 : LSum) : Xt → St → Option Value := kAt P G (tab L_A.ref_far) (A.ref_Times.H F0) [1, 1, 1, 1, 0, 1, 0] 60 (fbody Tryz.f163) (retK P G Tryz.f163)
def A.ref_Times.l0.c0 {γ : Type} (k0 : Int × Int × Int × Int × Int × Int × Int × Int → Option γ) (k : Int × Int → Option γ) (s7 : Int) (s8 : Int) (b0_0 : Int) (b0_1 : Int) (b1_0 : Int) (b1_1 : Int) (b2_0 : Int) (b2_1 : Int) (t1 : Int) (t2 : Int × Int) (t3 : Int × Int) (t4 : Int × Int) (t5 : Int) (t6 : Int) (t7 : Int) (t8 : Int) : Option γ := bif decide (s8 < 64)
  then bif !decide (s8 < 0)
   then k0 (s7, t1, b0_0, b0_1, t2.fst, t2.snd, t6, t8)
   else none
  else k (b2_0, b2_1)
def A.ref_Times.l0.c {γ : Type} (k0 : Int × Int × Int × Int × Int × Int × Int × Int → Option γ) (k : Int × Int → Option γ) (s7 : Int) (s8 : Int) (b0_0 : Int) (b0_1 : Int) (b1_0 : Int) (b1_1 : Int) (b2_0 : Int) (b2_1 : Int) : Option γ := let t1 := IntKind.i64.wrap (s8 + 1); let t2 := A.ref_plus b1_0 b1_1 b1_0 b1_1; let t3 := A.ref_minus b2_0 b2_1 b1_0 b1_1; let t4 := A.ref_plus b2_0 b2_1 b1_0 b1_1; let t5 := bif s8 == 63 then t3.fst else t4.fst; let t6 := bif andI IntKind.u64 (s7.fdiv (2 ^ min s8.toNat IntKind.u64.bits)) 1 == 1 then t5 else b2_0; let t7 := bif s8 == 63 then t3.snd else t4.snd; let t8 := bif andI IntKind.u64 (s7.fdiv (2 ^ min s8.toNat IntKind.u64.bits)) 1 == 1 then t7 else b2_1; A.ref_Times.l0.c0 k0 k s7 s8 b0_0 b0_1 b1_0 b1_1 b2_0 b2_1 t1 t2 t3 t4 t5 t6 t7 t8
def A.ref_Times.c0 {γ : Type} (k0 : Int × Int × Int × Int × Int × Int × Int × Int → Option γ) (k : Int × Int → Option γ) (a : Int) (b : Int) (t1 : Int) (t2 : Int × Int) : Option γ := k0 (t1, 0, 0, 0, t2.fst, t2.snd, 0, 0)
def A.ref_Times.c {γ : Type} (k0 : Int × Int × Int × Int × Int × Int × Int × Int → Option γ) (k : Int × Int → Option γ) (a : Int) (b : Int) : Option γ := let t1 := IntKind.u64.wrap b; let t2 := A.ref_Of a; A.ref_Times.c0 k0 k a b t1 t2
def A.ref_Times.L0 (N : Nat)  : Nat → Int × Int × Int × Int × Int × Int × Int × Int → Option (Int × Int)
  | 0, _ => none
  | m + 1, q => A.ref_Times.l0.c (A.ref_Times.L0 N m) some (q).1 (q).2.1 (q).2.2.1 (q).2.2.2.1 (q).2.2.2.2.1 (q).2.2.2.2.2.1 (q).2.2.2.2.2.2.1 (q).2.2.2.2.2.2.2
def A.ref_Times.o (N : Nat) (a : Int) (b : Int) : Option (Int × Int) := A.ref_Times.c (A.ref_Times.L0 N  N) some a b
noncomputable def A.ref_Times.S0 (N : Nat) : LSum := sumN P G (tab L_A.ref_far) (A.ref_Times.H0 ) 60 A.ref_Times.B0 N
theorem A.ref_Times.l0.p0 {γ δ : Type} (f : γ → δ) (k0 : Int × Int × Int × Int × Int × Int × Int × Int → Option γ) (k : Int × Int → Option γ) (s7 : Int) (s8 : Int) (b0_0 : Int) (b0_1 : Int) (b1_0 : Int) (b1_1 : Int) (b2_0 : Int) (b2_1 : Int) (t1 : Int) (t2 : Int × Int) (t3 : Int × Int) (t4 : Int × Int) (t5 : Int) (t6 : Int) (t7 : Int) (t8 : Int) : A.ref_Times.l0.c0 (fun q => (k0 q).map f) (fun q => (k q).map f) s7 s8 b0_0 b0_1 b1_0 b1_1 b2_0 b2_1 t1 t2 t3 t4 t5 t6 t7 t8 = (A.ref_Times.l0.c0 k0 k s7 s8 b0_0 b0_1 b1_0 b1_1 b2_0 b2_1 t1 t2 t3 t4 t5 t6 t7 t8).map f := by
  unfold A.ref_Times.l0.c0; (repeat' (first | (apply pm f) | (exact rfl)))
theorem A.ref_Times.l0.p {γ δ : Type} (f : γ → δ) (k0 : Int × Int × Int × Int × Int × Int × Int × Int → Option γ) (k : Int × Int → Option γ) (s7 : Int) (s8 : Int) (b0_0 : Int) (b0_1 : Int) (b1_0 : Int) (b1_1 : Int) (b2_0 : Int) (b2_1 : Int) : A.ref_Times.l0.c (fun q => (k0 q).map f) (fun q => (k q).map f) s7 s8 b0_0 b0_1 b1_0 b1_1 b2_0 b2_1 = (A.ref_Times.l0.c k0 k s7 s8 b0_0 b0_1 b1_0 b1_1 b2_0 b2_1).map f :=
  let t1 := IntKind.i64.wrap (s8 + 1); let t2 := A.ref_plus b1_0 b1_1 b1_0 b1_1; let t3 := A.ref_minus b2_0 b2_1 b1_0 b1_1; let t4 := A.ref_plus b2_0 b2_1 b1_0 b1_1; let t5 := bif s8 == 63 then t3.fst else t4.fst; let t6 := bif andI IntKind.u64 (s7.fdiv (2 ^ min s8.toNat IntKind.u64.bits)) 1 == 1 then t5 else b2_0; let t7 := bif s8 == 63 then t3.snd else t4.snd; let t8 := bif andI IntKind.u64 (s7.fdiv (2 ^ min s8.toNat IntKind.u64.bits)) 1 == 1 then t7 else b2_1; A.ref_Times.l0.p0 f k0 k s7 s8 b0_0 b0_1 b1_0 b1_1 b2_0 b2_1 t1 t2 t3 t4 t5 t6 t7 t8
theorem A.ref_Times.p0 {γ δ : Type} (f : γ → δ) (k0 : Int × Int × Int × Int × Int × Int × Int × Int → Option γ) (k : Int × Int → Option γ) (a : Int) (b : Int) (t1 : Int) (t2 : Int × Int) : A.ref_Times.c0 (fun q => (k0 q).map f) (fun q => (k q).map f) a b t1 t2 = (A.ref_Times.c0 k0 k a b t1 t2).map f := by
  unfold A.ref_Times.c0; (repeat' (first | (apply pm f) | (exact rfl)))
theorem A.ref_Times.p {γ δ : Type} (f : γ → δ) (k0 : Int × Int × Int × Int × Int × Int × Int × Int → Option γ) (k : Int × Int → Option γ) (a : Int) (b : Int) : A.ref_Times.c (fun q => (k0 q).map f) (fun q => (k q).map f) a b = (A.ref_Times.c k0 k a b).map f :=
  let t1 := IntKind.u64.wrap b; let t2 := A.ref_Of a; A.ref_Times.p0 f k0 k a b t1 t2
theorem A.ref_Times.S0.ok (N : Nat) : LoopsOK P G (A.ref_Times.H0 ).sums A.ref_Times.B0 := by
  refine LoopsOK_code fun i hi F hF => ?_
  have hlen : (loopsOf A.ref_Times.B0).length = 0 := by kernel_rfl
  rw [hlen] at hi
  omega
theorem A.ref_Times.S0.snd (N : Nat) : SoundL P G A.ref_Times.B0 (A.ref_Times.S0 N) := sumN_sound C.mixed C.names A.ref_far.t (A.ref_Times.S0.ok N) N
theorem A.ref_Times.l0.r (F0 G0 : LSum) (s7 : Int) (s8 : Int) (b0_0 : Int) (b0_1 : Int) (b1_0 : Int) (b1_1 : Int) (b2_0 : Int) (b2_1 : Int) : ex P G (tab L_A.ref_far) (A.ref_Times.H0 ) 60 A.ref_Times.B0 (A.ref_Times.e0 (s7, s8, b0_0, b0_1, b1_0, b1_1, b2_0, b2_1)) (roundK (A.ref_Times.H0 ) A.ref_Times.B0 G0 (A.ref_Times.K0 F0)) = A.ref_Times.l0.c (fun q => G0.run (A.ref_Times.e0 q) (A.ref_Times.K0 F0)) (fun q => some (A.ref_Times.val q)) s7 s8 b0_0 b0_1 b1_0 b1_1 b2_0 b2_1 := by kernel_rfl
theorem A.ref_Times.r (F0 : LSum) (a : Int) (b : Int) : runF P G (tab L_A.ref_far) (A.ref_Times.H F0) 60 Tryz.f163 [.int .i64 a, .int .i64 b] = A.ref_Times.c (fun q => F0.run (A.ref_Times.e0 q) (A.ref_Times.K0 F0)) (fun q => some (A.ref_Times.val q)) a b := by kernel_rfl
theorem A.ref_Times.L0.ok (N : Nat) (F0 : LSum)   : ∀ m q, (sumN P G (tab L_A.ref_far) (A.ref_Times.H0 ) 60 A.ref_Times.B0 m).run (A.ref_Times.e0 q) (A.ref_Times.K0 F0) = (A.ref_Times.L0 N  m q).map A.ref_Times.val
  | 0, q => rfl
  | m + 1, q => by
    have ih := A.ref_Times.L0.ok N F0   m
    refine (sumN_run (n := m) rfl).trans ((A.ref_Times.l0.r F0 (sumN P G (tab L_A.ref_far) (A.ref_Times.H0 ) 60 A.ref_Times.B0 m) (q).1 (q).2.1 (q).2.2.1 (q).2.2.2.1 (q).2.2.2.2.1 (q).2.2.2.2.2.1 (q).2.2.2.2.2.2.1 (q).2.2.2.2.2.2.2).trans ?_)
    refine Eq.trans ?_ (A.ref_Times.l0.p A.ref_Times.val (A.ref_Times.L0 N m) some (q).1 (q).2.1 (q).2.2.1 (q).2.2.2.1 (q).2.2.2.2.1 (q).2.2.2.2.2.1 (q).2.2.2.2.2.2.1 (q).2.2.2.2.2.2.2)
    have e0 : (fun q => (sumN P G (tab L_A.ref_far) (A.ref_Times.H0 ) 60 A.ref_Times.B0 m).run (A.ref_Times.e0 q) (A.ref_Times.K0 F0)) = (fun q => ((A.ref_Times.L0 N m) q).map A.ref_Times.val) := funext ih
    rw [e0]; rfl
theorem A.ref_Times.q (N : Nat) (a : Int) (b : Int) : runF P G (tab L_A.ref_far) (A.ref_Times.H (A.ref_Times.S0 N)) 60 Tryz.f163 [.int .i64 a, .int .i64 b] = (A.ref_Times.o N a b).map A.ref_Times.val := by
  have hk0 := A.ref_Times.L0.ok N (A.ref_Times.S0 N)   N
  refine (A.ref_Times.r (A.ref_Times.S0 N) a b).trans ?_
  refine Eq.trans ?_ (A.ref_Times.p A.ref_Times.val (A.ref_Times.L0 N  N) some a b)
  have e0 : (fun q => (A.ref_Times.S0 N).run (A.ref_Times.e0 q) (A.ref_Times.K0 (A.ref_Times.S0 N))) = (fun q => ((A.ref_Times.L0 N  N) q).map A.ref_Times.val) := funext hk0
  rw [e0]; rfl
theorem A.ref_Times.lok (N : Nat) : LoopsOK P G (A.ref_Times.H (A.ref_Times.S0 N)).sums (fbody Tryz.f163) := by
  refine LoopsOK_code fun i hi F hF => ?_
  have hlen : (loopsOf (fbody Tryz.f163)).length = 1 := by kernel_rfl
  rw [hlen] at hi
  match i, hi with
  | 0, _ => exact soundAt (B' := A.ref_Times.B0) (by kernel_rfl) (by kernel_rfl) (A.ref_Times.S0.snd N) hF
  | _ + 1, h => omega
theorem A.ref_Times.L0s (N : Nat) : ∀ (m : Nat) (q : Int × Int × Int × Int × Int × Int × Int × Int), m ≤ 64 → q.2.1 = 64 - (m : Int) → (A.ref_Times.L0 N (m + 1) q).isSome = true
  | 0, q, hm, h => by
    have h1 : decide (q.2.1 < 64) = false := by simp; omega
    simp only [A.ref_Times.L0, A.ref_Times.l0.c, A.ref_Times.l0.c0, h1, cond_false, Option.isSome_some]
  | m + 1, q, hm, h => by
    have h1 : decide (q.2.1 < 64) = true := by simp; omega
    have h2 : decide (q.2.1 < 0) = false := by simp; omega
    have h3 : IntKind.i64.wrap (q.2.1 + 1) = 64 - (m : Int) := wi_id (by omega) (by omega) |>.trans (by omega)
    have key : ∀ b1 b2 b3 b4 b5 b6 b7, (A.ref_Times.L0 N (m + 1) (b1, IntKind.i64.wrap (q.2.1 + 1), b2, b3, b4, b5, b6, b7)).isSome = true := fun _ _ _ _ _ _ _ => A.ref_Times.L0s N m _ (by omega) h3
    rw [A.ref_Times.L0]
    simp only [A.ref_Times.l0.c, A.ref_Times.l0.c0, h1, h2, cond_true, Bool.not_false]
    rw [Bool.cond_eq_ite, Bool.cond_eq_ite]
    split
    · split <;> exact key _ _ _ _ _ _ _
    · exact key _ _ _ _ _ _ _
theorem A.ref_Times.os (a b : Int) : (A.ref_Times.o 65 a b).isSome = true := by
  unfold A.ref_Times.o A.ref_Times.c A.ref_Times.c0; exact A.ref_Times.L0s 65 64 _ (by omega) rfl
def A.ref_Times (a : Int) (b : Int) : Int × Int := (A.ref_Times.o 65 a b).getD (0, 0)
def A.ref_Times.g (a : Int) (b : Int) : Bool := true
theorem A.ref_Times.s (a : Int) (b : Int) (h : A.ref_Times.g a b = true) : A.ref_Times.o 65 a b = some (A.ref_Times a b) := by
  have := A.ref_Times.os a b; unfold A.ref_Times; revert this; cases A.ref_Times.o 65 a b <;> simp
def A.ref_Times.F : FV := mkF (cP (cI .i64) (cP (cI .i64) cU)) (fun | (a, (b, ())) => A.ref_Times.g a b) (fun | (a, (b, ())) => A.ref_Times.val (A.ref_Times a b))
def L_A.ref_Times : TL := (163, A.ref_Times.F) :: L_A.ref_far
theorem A.ref_Times.t : TabOK P G (tab L_A.ref_Times) :=
  TabOK_mkH C A.ref_far.t Tryz.func163 (by kernel_rfl) (fun | (_, (_, ())) => A.ref_Times.H (A.ref_Times.S0 (65))) (by rintro ⟨a, ⟨b, ⟨⟩⟩⟩; exact A.ref_Times.lok _) 60 (by
    rintro ⟨a, ⟨b, ⟨⟩⟩⟩ h
    exact (A.ref_Times.q (65) a b).trans (congrArg (Option.map A.ref_Times.val) (A.ref_Times.s a b h)))
def A.ref_Mul.c0 {γ : Type} (k : Int × Int × Bool → γ) (a0 : Int) (a1 : Int) (b0 : Int) (b1 : Int) (t1 : Bool) (t2 : Bool) (t3 : Int × Int) (t4 : Int × Int) (t5 : Int × Int) (t6 : Int × Int) (t7 : Bool) (t8 : Int) (t9 : Int) (t10 : Bool) (t11 : Int) (t12 : Int) (t13 : Bool) (t14 : Int) (t15 : Int) (t16 : Bool) (t17 : Bool) (t18 : Int) (t19 : Int) (t20 : Bool) (t21 : Int) (t22 : Int) (t23 : Bool) (t24 : Int) (t25 : Int) (t26 : Bool) (t27 : Int) (t28 : Int) : γ := bif t1
  then k (A.ref_None.fst, A.ref_None.snd, true)
  else bif t2
   then k (A.ref_None.fst, A.ref_None.snd, true)
   else bif t16
    then bif t26
     then k (t27, t28, true)
     else bif a0 == a1
      then bif b0 == b1
       then k (t27, t27, false)
       else k (-9223372036854775808, 9223372036854775807, false)
      else k (-9223372036854775808, 9223372036854775807, false)
    else bif a0 == a1
     then bif b0 == b1
      then k (t27, t27, false)
      else k (-9223372036854775808, 9223372036854775807, false)
     else k (-9223372036854775808, 9223372036854775807, false)
def A.ref_Mul.c {γ : Type} (k : Int × Int × Bool → γ) (a0 : Int) (a1 : Int) (b0 : Int) (b1 : Int) : γ := let t1 := A.ref_Empty a0 a1; let t2 := A.ref_Empty b0 b1; let t3 := A.ref_Times a1 b1; let t4 := A.ref_Times a1 b0; let t5 := A.ref_Times a0 b1; let t6 := A.ref_Times a0 b0; let t7 := A.ref_less t5.fst t5.snd t6.fst t6.snd; let t8 := bif t7 then t5.fst else t6.fst; let t9 := bif t7 then t5.snd else t6.snd; let t10 := A.ref_less t4.fst t4.snd t8 t9; let t11 := bif t10 then t4.fst else t8; let t12 := bif t10 then t4.snd else t9; let t13 := A.ref_less t3.fst t3.snd t11 t12; let t14 := bif t13 then t3.fst else t11; let t15 := bif t13 then t3.snd else t12; let t16 := A.ref_Fits t14 t15; let t17 := A.ref_less t6.fst t6.snd t5.fst t5.snd; let t18 := bif t17 then t5.fst else t6.fst; let t19 := bif t17 then t5.snd else t6.snd; let t20 := A.ref_less t18 t19 t4.fst t4.snd; let t21 := bif t20 then t4.fst else t18; let t22 := bif t20 then t4.snd else t19; let t23 := A.ref_less t21 t22 t3.fst t3.snd; let t24 := bif t23 then t3.fst else t21; let t25 := bif t23 then t3.snd else t22; let t26 := A.ref_Fits t24 t25; let t27 := IntKind.i64.wrap t15; let t28 := IntKind.i64.wrap t25; A.ref_Mul.c0 k a0 a1 b0 b1 t1 t2 t3 t4 t5 t6 t7 t8 t9 t10 t11 t12 t13 t14 t15 t16 t17 t18 t19 t20 t21 t22 t23 t24 t25 t26 t27 t28
def A.ref_Mul (a0 : Int) (a1 : Int) (b0 : Int) (b1 : Int) : Int × Int × Bool := A.ref_Mul.c id a0 a1 b0 b1
def A.ref_Mul.F : FV := mkF (cP (cA (cP (cI .i64) (cP (cI .i64) cU))) (cP (cA (cP (cI .i64) (cP (cI .i64) cU))) cU)) (fun _ => true) (fun | ((a0, (a1, ())), ((b0, (b1, ())), ())) => .tuple #[.agg #[.int .i64 (A.ref_Mul a0 a1 b0 b1).1, .int .i64 (A.ref_Mul a0 a1 b0 b1).2.1], .bool (A.ref_Mul a0 a1 b0 b1).2.2])
def L_A.ref_Mul : TL := (87, A.ref_Mul.F) :: L_A.ref_Times
theorem A.ref_Mul.p0 {γ : Type} (k : Int × Int × Bool → γ) (a0 : Int) (a1 : Int) (b0 : Int) (b1 : Int) (t1 : Bool) (t2 : Bool) (t3 : Int × Int) (t4 : Int × Int) (t5 : Int × Int) (t6 : Int × Int) (t7 : Bool) (t8 : Int) (t9 : Int) (t10 : Bool) (t11 : Int) (t12 : Int) (t13 : Bool) (t14 : Int) (t15 : Int) (t16 : Bool) (t17 : Bool) (t18 : Int) (t19 : Int) (t20 : Bool) (t21 : Int) (t22 : Int) (t23 : Bool) (t24 : Int) (t25 : Int) (t26 : Bool) (t27 : Int) (t28 : Int) : A.ref_Mul.c0 k a0 a1 b0 b1 t1 t2 t3 t4 t5 t6 t7 t8 t9 t10 t11 t12 t13 t14 t15 t16 t17 t18 t19 t20 t21 t22 t23 t24 t25 t26 t27 t28 = k (A.ref_Mul.c0 id a0 a1 b0 b1 t1 t2 t3 t4 t5 t6 t7 t8 t9 t10 t11 t12 t13 t14 t15 t16 t17 t18 t19 t20 t21 t22 t23 t24 t25 t26 t27 t28) := by
  unfold A.ref_Mul.c0; (repeat' (first | (apply pc k) | (exact rfl)))
theorem A.ref_Mul.p {γ : Type} (k : Int × Int × Bool → γ) (a0 : Int) (a1 : Int) (b0 : Int) (b1 : Int) : A.ref_Mul.c k a0 a1 b0 b1 = k (A.ref_Mul a0 a1 b0 b1) :=
  let t1 := A.ref_Empty a0 a1; let t2 := A.ref_Empty b0 b1; let t3 := A.ref_Times a1 b1; let t4 := A.ref_Times a1 b0; let t5 := A.ref_Times a0 b1; let t6 := A.ref_Times a0 b0; let t7 := A.ref_less t5.fst t5.snd t6.fst t6.snd; let t8 := bif t7 then t5.fst else t6.fst; let t9 := bif t7 then t5.snd else t6.snd; let t10 := A.ref_less t4.fst t4.snd t8 t9; let t11 := bif t10 then t4.fst else t8; let t12 := bif t10 then t4.snd else t9; let t13 := A.ref_less t3.fst t3.snd t11 t12; let t14 := bif t13 then t3.fst else t11; let t15 := bif t13 then t3.snd else t12; let t16 := A.ref_Fits t14 t15; let t17 := A.ref_less t6.fst t6.snd t5.fst t5.snd; let t18 := bif t17 then t5.fst else t6.fst; let t19 := bif t17 then t5.snd else t6.snd; let t20 := A.ref_less t18 t19 t4.fst t4.snd; let t21 := bif t20 then t4.fst else t18; let t22 := bif t20 then t4.snd else t19; let t23 := A.ref_less t21 t22 t3.fst t3.snd; let t24 := bif t23 then t3.fst else t21; let t25 := bif t23 then t3.snd else t22; let t26 := A.ref_Fits t24 t25; let t27 := IntKind.i64.wrap t15; let t28 := IntKind.i64.wrap t25; A.ref_Mul.p0 k a0 a1 b0 b1 t1 t2 t3 t4 t5 t6 t7 t8 t9 t10 t11 t12 t13 t14 t15 t16 t17 t18 t19 t20 t21 t22 t23 t24 t25 t26 t27 t28
theorem A.ref_Mul.r (a0 : Int) (a1 : Int) (b0 : Int) (b1 : Int) : runF P G (tab L_A.ref_Times) { merge := true } 60 Tryz.f87 [.agg #[.int .i64 a0, .int .i64 a1], .agg #[.int .i64 b0, .int .i64 b1]] = A.ref_Mul.c (fun q => some (.tuple #[.agg #[.int .i64 (q).1, .int .i64 (q).2.1], .bool (q).2.2] : Value)) a0 a1 b0 b1 := by kernel_rfl
theorem A.ref_Mul.t : TabOK P G (tab L_A.ref_Mul) :=
  TabOK_mk C A.ref_Times.t Tryz.func87 (by kernel_rfl) true 60 (by
    rintro ⟨⟨a0, ⟨a1, ⟨⟩⟩⟩, ⟨⟨b0, ⟨b1, ⟨⟩⟩⟩, ⟨⟩⟩⟩ h
    exact (A.ref_Mul.r a0 a1 b0 b1).trans (A.ref_Mul.p (fun q => some (.tuple #[.agg #[.int .i64 (q).1, .int .i64 (q).2.1], .bool (q).2.2] : Value)) a0 a1 b0 b1))
def A.ref_corners.c0 {γ : Type} (n : γ) (k : Int × Int → γ) (a0 : Int) (a1 : Int) (b0 : Int) (b1 : Int) (t1 : Bool) (t2 : Bool) (t3 : Int) (t4 : Int × Int) (t5 : Int) (t6 : Int × Int) (t7 : Int) (t8 : Int × Int) (t9 : Int) (t10 : Int × Int) : γ := bif t1
  then k (A.ref_None.fst, A.ref_None.snd)
  else bif t2
   then k (A.ref_None.fst, A.ref_None.snd)
   else bif !decide (b0 = 0)
    then bif !decide (b0 = 0)
     then bif !decide (b1 = 0)
      then bif !decide (b1 = 0)
       then bif !decide (b0 = 0)
        then bif !decide (b0 = 0)
         then bif !decide (b1 = 0)
          then bif !decide (b1 = 0)
           then k (t10.fst, t10.snd)
           else n
          else n
         else n
        else n
       else n
      else n
     else n
    else n
def A.ref_corners.c {γ : Type} (n : γ) (k : Int × Int → γ) (a0 : Int) (a1 : Int) (b0 : Int) (b1 : Int) : γ := let t1 := A.ref_Empty a0 a1; let t2 := A.ref_Empty b0 b1; let t3 := IntKind.i64.wrap (a0.tdiv b0); let t4 := A.ref_Join A.ref_None.fst A.ref_None.snd t3 t3; let t5 := IntKind.i64.wrap (a0.tdiv b1); let t6 := A.ref_Join t4.fst t4.snd t5 t5; let t7 := IntKind.i64.wrap (a1.tdiv b0); let t8 := A.ref_Join t6.fst t6.snd t7 t7; let t9 := IntKind.i64.wrap (a1.tdiv b1); let t10 := A.ref_Join t8.fst t8.snd t9 t9; A.ref_corners.c0 n k a0 a1 b0 b1 t1 t2 t3 t4 t5 t6 t7 t8 t9 t10
def A.ref_corners.ok (a0 : Int) (a1 : Int) (b0 : Int) (b1 : Int) : Bool := A.ref_corners.c false (fun _ => true) a0 a1 b0 b1
def A.ref_corners (a0 : Int) (a1 : Int) (b0 : Int) (b1 : Int) : Int × Int := A.ref_corners.c (0, 0) id a0 a1 b0 b1
def A.ref_corners.F : FV := mkF (cP (cA (cP (cI .i64) (cP (cI .i64) cU))) (cP (cA (cP (cI .i64) (cP (cI .i64) cU))) cU)) (fun | ((a0, (a1, ())), ((b0, (b1, ())), ())) => A.ref_corners.ok a0 a1 b0 b1) (fun | ((a0, (a1, ())), ((b0, (b1, ())), ())) => .agg #[.int .i64 (A.ref_corners a0 a1 b0 b1).1, .int .i64 (A.ref_corners a0 a1 b0 b1).2])
def L_A.ref_corners : TL := (166, A.ref_corners.F) :: L_A.ref_Mul
theorem A.ref_corners.p0 {γ : Type} (k : Int × Int → γ) (a0 : Int) (a1 : Int) (b0 : Int) (b1 : Int) (t1 : Bool) (t2 : Bool) (t3 : Int) (t4 : Int × Int) (t5 : Int) (t6 : Int × Int) (t7 : Int) (t8 : Int × Int) (t9 : Int) (t10 : Int × Int) : A.ref_corners.c0 false (fun _ => true) a0 a1 b0 b1 t1 t2 t3 t4 t5 t6 t7 t8 t9 t10 = true → A.ref_corners.c0 none (fun q => some (k q)) a0 a1 b0 b1 t1 t2 t3 t4 t5 t6 t7 t8 t9 t10 = some (k (A.ref_corners.c0 (0, 0) id a0 a1 b0 b1 t1 t2 t3 t4 t5 t6 t7 t8 t9 t10)) := by
  unfold A.ref_corners.c0; (repeat' (first | (apply pn k) | (exact pn_none _ _) | (exact pn_leaf k _)))
theorem A.ref_corners.p {γ : Type} (k : Int × Int → γ) (a0 : Int) (a1 : Int) (b0 : Int) (b1 : Int) (h : A.ref_corners.ok a0 a1 b0 b1 = true) : A.ref_corners.c none (fun q => some (k q)) a0 a1 b0 b1 = some (k (A.ref_corners a0 a1 b0 b1)) :=
  let t1 := A.ref_Empty a0 a1; let t2 := A.ref_Empty b0 b1; let t3 := IntKind.i64.wrap (a0.tdiv b0); let t4 := A.ref_Join A.ref_None.fst A.ref_None.snd t3 t3; let t5 := IntKind.i64.wrap (a0.tdiv b1); let t6 := A.ref_Join t4.fst t4.snd t5 t5; let t7 := IntKind.i64.wrap (a1.tdiv b0); let t8 := A.ref_Join t6.fst t6.snd t7 t7; let t9 := IntKind.i64.wrap (a1.tdiv b1); let t10 := A.ref_Join t8.fst t8.snd t9 t9; A.ref_corners.p0 k a0 a1 b0 b1 t1 t2 t3 t4 t5 t6 t7 t8 t9 t10 h
theorem A.ref_corners.r (a0 : Int) (a1 : Int) (b0 : Int) (b1 : Int) : runF P G (tab L_A.ref_Mul) { merge := true } 60 Tryz.f166 [.agg #[.int .i64 a0, .int .i64 a1], .agg #[.int .i64 b0, .int .i64 b1]] = A.ref_corners.c none (fun q => some (.agg #[.int .i64 (q).1, .int .i64 (q).2] : Value)) a0 a1 b0 b1 := by kernel_rfl
theorem A.ref_corners.t : TabOK P G (tab L_A.ref_corners) :=
  TabOK_mk C A.ref_Mul.t Tryz.func166 (by kernel_rfl) true 60 (by
    rintro ⟨⟨a0, ⟨a1, ⟨⟩⟩⟩, ⟨⟨b0, ⟨b1, ⟨⟩⟩⟩, ⟨⟩⟩⟩ h
    exact (A.ref_corners.r a0 a1 b0 b1).trans (A.ref_corners.p (fun q => (.agg #[.int .i64 (q).1, .int .i64 (q).2] : Value)) a0 a1 b0 b1 h))
def A.ref_Div.c0 {γ : Type} (n : γ) (k : Int × Int × Bool → γ) (a0 : Int) (a1 : Int) (b0 : Int) (b1 : Int) (t1 : Bool) (t2 : Bool) (t3 : Int × Int) (t4 : Bool) (t5 : Bool) (t6 : Int × Int) (t7 : Bool) (t8 : Int × Int) (t9 : Int × Int) (t10 : Int × Int) (t11 : Bool) (t12 : Int × Int) (t13 : Bool) (t14 : Int × Int) (t15 : Bool) (t16 : Int × Int) (t17 : Int × Int) (t18 : Int × Int) (t19 : Int × Int) (t20 : Int × Int) : γ := bif t1
  then k (A.ref_None.fst, A.ref_None.snd, true)
  else bif t2
   then k (A.ref_None.fst, A.ref_None.snd, true)
   else bif t4
    then bif !t5
     then bif t7
      then k (t10.fst, t10.snd, true)
      else n
     else bif !t11
      then bif t7
       then k (t10.fst, t10.snd, true)
       else n
      else bif t13
       then bif t15
        then k (t20.fst, t20.snd, false)
        else n
       else n
    else n
def A.ref_Div.c {γ : Type} (n : γ) (k : Int × Int × Bool → γ) (a0 : Int) (a1 : Int) (b0 : Int) (b1 : Int) : γ := let t1 := A.ref_Empty a0 a1; let t2 := A.ref_Empty b0 b1; let t3 := A.ref_Meet b0 b1 1 9223372036854775807; let t4 := A.ref_corners.ok a0 a1 t3.fst t3.snd; let t5 := A.ref_Has a0 a1 (-9223372036854775808); let t6 := A.ref_Meet b0 b1 (-9223372036854775808) (-1); let t7 := A.ref_corners.ok a0 a1 t6.fst t6.snd; let t8 := A.ref_corners a0 a1 t3.fst t3.snd; let t9 := A.ref_corners a0 a1 t6.fst t6.snd; let t10 := A.ref_Join t8.fst t8.snd t9.fst t9.snd; let t11 := A.ref_Has t6.fst t6.snd (-1); let t12 := A.ref_Meet a0 a1 (-9223372036854775807) 9223372036854775807; let t13 := A.ref_corners.ok t12.fst t12.snd t6.fst t6.snd; let t14 := A.ref_Meet t6.fst t6.snd (-9223372036854775808) (-2); let t15 := A.ref_corners.ok (-9223372036854775808) (-9223372036854775808) t14.fst t14.snd; let t16 := A.ref_Join t8.fst t8.snd (-9223372036854775808) (-9223372036854775808); let t17 := A.ref_corners t12.fst t12.snd t6.fst t6.snd; let t18 := A.ref_Join t16.fst t16.snd t17.fst t17.snd; let t19 := A.ref_corners (-9223372036854775808) (-9223372036854775808) t14.fst t14.snd; let t20 := A.ref_Join t18.fst t18.snd t19.fst t19.snd; A.ref_Div.c0 n k a0 a1 b0 b1 t1 t2 t3 t4 t5 t6 t7 t8 t9 t10 t11 t12 t13 t14 t15 t16 t17 t18 t19 t20
def A.ref_Div.ok (a0 : Int) (a1 : Int) (b0 : Int) (b1 : Int) : Bool := A.ref_Div.c false (fun _ => true) a0 a1 b0 b1
def A.ref_Div (a0 : Int) (a1 : Int) (b0 : Int) (b1 : Int) : Int × Int × Bool := A.ref_Div.c (0, 0, false) id a0 a1 b0 b1
def A.ref_Div.F : FV := mkF (cP (cA (cP (cI .i64) (cP (cI .i64) cU))) (cP (cA (cP (cI .i64) (cP (cI .i64) cU))) cU)) (fun | ((a0, (a1, ())), ((b0, (b1, ())), ())) => A.ref_Div.ok a0 a1 b0 b1) (fun | ((a0, (a1, ())), ((b0, (b1, ())), ())) => .tuple #[.agg #[.int .i64 (A.ref_Div a0 a1 b0 b1).1, .int .i64 (A.ref_Div a0 a1 b0 b1).2.1], .bool (A.ref_Div a0 a1 b0 b1).2.2])
def L_A.ref_Div : TL := (89, A.ref_Div.F) :: L_A.ref_corners
theorem A.ref_Div.p0 {γ : Type} (k : Int × Int × Bool → γ) (a0 : Int) (a1 : Int) (b0 : Int) (b1 : Int) (t1 : Bool) (t2 : Bool) (t3 : Int × Int) (t4 : Bool) (t5 : Bool) (t6 : Int × Int) (t7 : Bool) (t8 : Int × Int) (t9 : Int × Int) (t10 : Int × Int) (t11 : Bool) (t12 : Int × Int) (t13 : Bool) (t14 : Int × Int) (t15 : Bool) (t16 : Int × Int) (t17 : Int × Int) (t18 : Int × Int) (t19 : Int × Int) (t20 : Int × Int) : A.ref_Div.c0 false (fun _ => true) a0 a1 b0 b1 t1 t2 t3 t4 t5 t6 t7 t8 t9 t10 t11 t12 t13 t14 t15 t16 t17 t18 t19 t20 = true → A.ref_Div.c0 none (fun q => some (k q)) a0 a1 b0 b1 t1 t2 t3 t4 t5 t6 t7 t8 t9 t10 t11 t12 t13 t14 t15 t16 t17 t18 t19 t20 = some (k (A.ref_Div.c0 (0, 0, false) id a0 a1 b0 b1 t1 t2 t3 t4 t5 t6 t7 t8 t9 t10 t11 t12 t13 t14 t15 t16 t17 t18 t19 t20)) := by
  unfold A.ref_Div.c0; (repeat' (first | (apply pn k) | (exact pn_none _ _) | (exact pn_leaf k _)))
theorem A.ref_Div.p {γ : Type} (k : Int × Int × Bool → γ) (a0 : Int) (a1 : Int) (b0 : Int) (b1 : Int) (h : A.ref_Div.ok a0 a1 b0 b1 = true) : A.ref_Div.c none (fun q => some (k q)) a0 a1 b0 b1 = some (k (A.ref_Div a0 a1 b0 b1)) :=
  let t1 := A.ref_Empty a0 a1; let t2 := A.ref_Empty b0 b1; let t3 := A.ref_Meet b0 b1 1 9223372036854775807; let t4 := A.ref_corners.ok a0 a1 t3.fst t3.snd; let t5 := A.ref_Has a0 a1 (-9223372036854775808); let t6 := A.ref_Meet b0 b1 (-9223372036854775808) (-1); let t7 := A.ref_corners.ok a0 a1 t6.fst t6.snd; let t8 := A.ref_corners a0 a1 t3.fst t3.snd; let t9 := A.ref_corners a0 a1 t6.fst t6.snd; let t10 := A.ref_Join t8.fst t8.snd t9.fst t9.snd; let t11 := A.ref_Has t6.fst t6.snd (-1); let t12 := A.ref_Meet a0 a1 (-9223372036854775807) 9223372036854775807; let t13 := A.ref_corners.ok t12.fst t12.snd t6.fst t6.snd; let t14 := A.ref_Meet t6.fst t6.snd (-9223372036854775808) (-2); let t15 := A.ref_corners.ok (-9223372036854775808) (-9223372036854775808) t14.fst t14.snd; let t16 := A.ref_Join t8.fst t8.snd (-9223372036854775808) (-9223372036854775808); let t17 := A.ref_corners t12.fst t12.snd t6.fst t6.snd; let t18 := A.ref_Join t16.fst t16.snd t17.fst t17.snd; let t19 := A.ref_corners (-9223372036854775808) (-9223372036854775808) t14.fst t14.snd; let t20 := A.ref_Join t18.fst t18.snd t19.fst t19.snd; A.ref_Div.p0 k a0 a1 b0 b1 t1 t2 t3 t4 t5 t6 t7 t8 t9 t10 t11 t12 t13 t14 t15 t16 t17 t18 t19 t20 h
theorem A.ref_Div.r (a0 : Int) (a1 : Int) (b0 : Int) (b1 : Int) : runF P G (tab L_A.ref_corners) { merge := true } 60 Tryz.f89 [.agg #[.int .i64 a0, .int .i64 a1], .agg #[.int .i64 b0, .int .i64 b1]] = A.ref_Div.c none (fun q => some (.tuple #[.agg #[.int .i64 (q).1, .int .i64 (q).2.1], .bool (q).2.2] : Value)) a0 a1 b0 b1 := by kernel_rfl
theorem A.ref_Div.t : TabOK P G (tab L_A.ref_Div) :=
  TabOK_mk C A.ref_corners.t Tryz.func89 (by kernel_rfl) true 60 (by
    rintro ⟨⟨a0, ⟨a1, ⟨⟩⟩⟩, ⟨⟨b0, ⟨b1, ⟨⟩⟩⟩, ⟨⟩⟩⟩ h
    exact (A.ref_Div.r a0 a1 b0 b1).trans (A.ref_Div.p (fun q => (.tuple #[.agg #[.int .i64 (q).1, .int .i64 (q).2.1], .bool (q).2.2] : Value)) a0 a1 b0 b1 h))
def A.ref_Rem.c0 {γ : Type} (n : γ) (k : Int × Int × Bool → γ) (a0 : Int) (a1 : Int) (b0 : Int) (b1 : Int) (t1 : Bool) (t2 : Int × Int) (t3 : Bool) (t4 : Int × Int) (t5 : Bool) (t6 : Bool) (t7 : Int) (t8 : Int) (t9 : Int) (t10 : Int) (t11 : Int) (t12 : Int) (t13 : Int) (t14 : Int) (t15 : Int) (t16 : Int) (t17 : Int) (t18 : Int) (t19 : Int) (t20 : Int) (t21 : Int) (t22 : Int) (t23 : Int) (t24 : Int) (t25 : Int) (t26 : Int) (t27 : Int) : γ := bif t1
  then k (A.ref_None.fst, A.ref_None.snd, true)
  else bif t3
   then bif t5
    then k (A.ref_None.fst, A.ref_None.snd, true)
    else bif a0 == a1
     then bif b0 == b1
      then bif !decide (b0 = 0) && true && true || t6
       then k (t7, t7, true)
       else n
      else bif decide (t10 < t15)
       then k (a0, a1, true)
       else k (t25, t27, true)
     else bif decide (t10 < t15)
      then k (a0, a1, true)
      else k (t25, t27, true)
   else bif a0 == a1
    then bif b0 == b1
     then bif !decide (b0 = 0) && true && true || t6
      then k (t7, t7, true)
      else n
     else bif decide (t10 < t15)
      then k (a0, a1, true)
      else k (t25, t27, true)
    else bif decide (t10 < t15)
     then k (a0, a1, true)
     else k (t25, t27, true)
def A.ref_Rem.c {γ : Type} (n : γ) (k : Int × Int × Bool → γ) (a0 : Int) (a1 : Int) (b0 : Int) (b1 : Int) : γ := let t1 := A.ref_Empty a0 a1; let t2 := A.ref_Meet b0 b1 (-9223372036854775808) (-1); let t3 := A.ref_Empty t2.fst t2.snd; let t4 := A.ref_Meet b0 b1 1 9223372036854775807; let t5 := A.ref_Empty t4.fst t4.snd; let t6 := bif b0 != -1 then !decide (b0 = 0) && true else true; let t7 := bif b0 != -1 then a0.tmod b0 else 0; let t8 := A.ref_far a1; let t9 := A.ref_far a0; let t10 := if t8 > t9 then t8 else t9; let t11 := A.ref_far t4.fst; let t12 := A.ref_far t2.snd; let t13 := bif !t3 then t12 else 18446744073709551615; let t14 := if t11 < t13 then t11 else t13; let t15 := bif !t5 then t14 else t13; let t16 := A.ref_far t4.snd; let t17 := A.ref_far t2.fst; let t18 := bif !t3 then t17 else 0; let t19 := if t16 > t18 then t16 else t18; let t20 := bif !t5 then t19 else t18; let t21 := IntKind.u64.wrap (t20 - 1); let t22 := IntKind.i64.wrap t21; let t23 := IntKind.i64.wrap (0 - t22); let t24 := if t23 > a0 then t23 else a0; let t25 := if t24 < 0 then t24 else 0; let t26 := if t22 < a1 then t22 else a1; let t27 := if t26 > 0 then t26 else 0; A.ref_Rem.c0 n k a0 a1 b0 b1 t1 t2 t3 t4 t5 t6 t7 t8 t9 t10 t11 t12 t13 t14 t15 t16 t17 t18 t19 t20 t21 t22 t23 t24 t25 t26 t27
def A.ref_Rem.ok (a0 : Int) (a1 : Int) (b0 : Int) (b1 : Int) : Bool := A.ref_Rem.c false (fun _ => true) a0 a1 b0 b1
def A.ref_Rem (a0 : Int) (a1 : Int) (b0 : Int) (b1 : Int) : Int × Int × Bool := A.ref_Rem.c (0, 0, false) id a0 a1 b0 b1
def A.ref_Rem.F : FV := mkF (cP (cA (cP (cI .i64) (cP (cI .i64) cU))) (cP (cA (cP (cI .i64) (cP (cI .i64) cU))) cU)) (fun | ((a0, (a1, ())), ((b0, (b1, ())), ())) => A.ref_Rem.ok a0 a1 b0 b1) (fun | ((a0, (a1, ())), ((b0, (b1, ())), ())) => .tuple #[.agg #[.int .i64 (A.ref_Rem a0 a1 b0 b1).1, .int .i64 (A.ref_Rem a0 a1 b0 b1).2.1], .bool (A.ref_Rem a0 a1 b0 b1).2.2])
def L_A.ref_Rem : TL := (91, A.ref_Rem.F) :: L_A.ref_Div
theorem A.ref_Rem.p0 {γ : Type} (k : Int × Int × Bool → γ) (a0 : Int) (a1 : Int) (b0 : Int) (b1 : Int) (t1 : Bool) (t2 : Int × Int) (t3 : Bool) (t4 : Int × Int) (t5 : Bool) (t6 : Bool) (t7 : Int) (t8 : Int) (t9 : Int) (t10 : Int) (t11 : Int) (t12 : Int) (t13 : Int) (t14 : Int) (t15 : Int) (t16 : Int) (t17 : Int) (t18 : Int) (t19 : Int) (t20 : Int) (t21 : Int) (t22 : Int) (t23 : Int) (t24 : Int) (t25 : Int) (t26 : Int) (t27 : Int) : A.ref_Rem.c0 false (fun _ => true) a0 a1 b0 b1 t1 t2 t3 t4 t5 t6 t7 t8 t9 t10 t11 t12 t13 t14 t15 t16 t17 t18 t19 t20 t21 t22 t23 t24 t25 t26 t27 = true → A.ref_Rem.c0 none (fun q => some (k q)) a0 a1 b0 b1 t1 t2 t3 t4 t5 t6 t7 t8 t9 t10 t11 t12 t13 t14 t15 t16 t17 t18 t19 t20 t21 t22 t23 t24 t25 t26 t27 = some (k (A.ref_Rem.c0 (0, 0, false) id a0 a1 b0 b1 t1 t2 t3 t4 t5 t6 t7 t8 t9 t10 t11 t12 t13 t14 t15 t16 t17 t18 t19 t20 t21 t22 t23 t24 t25 t26 t27)) := by
  unfold A.ref_Rem.c0; (repeat' (first | (apply pn k) | (exact pn_none _ _) | (exact pn_leaf k _)))
theorem A.ref_Rem.p {γ : Type} (k : Int × Int × Bool → γ) (a0 : Int) (a1 : Int) (b0 : Int) (b1 : Int) (h : A.ref_Rem.ok a0 a1 b0 b1 = true) : A.ref_Rem.c none (fun q => some (k q)) a0 a1 b0 b1 = some (k (A.ref_Rem a0 a1 b0 b1)) :=
  let t1 := A.ref_Empty a0 a1; let t2 := A.ref_Meet b0 b1 (-9223372036854775808) (-1); let t3 := A.ref_Empty t2.fst t2.snd; let t4 := A.ref_Meet b0 b1 1 9223372036854775807; let t5 := A.ref_Empty t4.fst t4.snd; let t6 := bif b0 != -1 then !decide (b0 = 0) && true else true; let t7 := bif b0 != -1 then a0.tmod b0 else 0; let t8 := A.ref_far a1; let t9 := A.ref_far a0; let t10 := if t8 > t9 then t8 else t9; let t11 := A.ref_far t4.fst; let t12 := A.ref_far t2.snd; let t13 := bif !t3 then t12 else 18446744073709551615; let t14 := if t11 < t13 then t11 else t13; let t15 := bif !t5 then t14 else t13; let t16 := A.ref_far t4.snd; let t17 := A.ref_far t2.fst; let t18 := bif !t3 then t17 else 0; let t19 := if t16 > t18 then t16 else t18; let t20 := bif !t5 then t19 else t18; let t21 := IntKind.u64.wrap (t20 - 1); let t22 := IntKind.i64.wrap t21; let t23 := IntKind.i64.wrap (0 - t22); let t24 := if t23 > a0 then t23 else a0; let t25 := if t24 < 0 then t24 else 0; let t26 := if t22 < a1 then t22 else a1; let t27 := if t26 > 0 then t26 else 0; A.ref_Rem.p0 k a0 a1 b0 b1 t1 t2 t3 t4 t5 t6 t7 t8 t9 t10 t11 t12 t13 t14 t15 t16 t17 t18 t19 t20 t21 t22 t23 t24 t25 t26 t27 h
theorem A.ref_Rem.r (a0 : Int) (a1 : Int) (b0 : Int) (b1 : Int) : runF P G (tab L_A.ref_Div) { merge := true } 60 Tryz.f91 [.agg #[.int .i64 a0, .int .i64 a1], .agg #[.int .i64 b0, .int .i64 b1]] = A.ref_Rem.c none (fun q => some (.tuple #[.agg #[.int .i64 (q).1, .int .i64 (q).2.1], .bool (q).2.2] : Value)) a0 a1 b0 b1 := by kernel_rfl
theorem A.ref_Rem.t : TabOK P G (tab L_A.ref_Rem) :=
  TabOK_mk C A.ref_Div.t Tryz.func91 (by kernel_rfl) true 60 (by
    rintro ⟨⟨a0, ⟨a1, ⟨⟩⟩⟩, ⟨⟨b0, ⟨b1, ⟨⟩⟩⟩, ⟨⟩⟩⟩ h
    exact (A.ref_Rem.r a0 a1 b0 b1).trans (A.ref_Rem.p (fun q => (.tuple #[.agg #[.int .i64 (q).1, .int .i64 (q).2.1], .bool (q).2.2] : Value)) a0 a1 b0 b1 h))
end
end Go.Proofs.YtonpbbhlmapbdaaGreatDoor.V
