/- What the functions of this seat compute, told by evaluation of their code. Conditions: none. -/
import Derived.Test.YtbbplkdjcgdaaaaDoorE2
set_option linter.unusedVariables false
set_option linter.unusedSimpArgs false
namespace Go.Proofs.YtbbplkdjcgdaaaaDoor.V
open Go Go.Wk

def ival_Mul.c0 {γ : Type} (k : Int × Int × Bool → γ) (a0 : Int) (a1 : Int) (b0 : Int) (b1 : Int) (t1 : Bool) (t2 : Bool) (t3 : Int × Int) (t4 : Int) (t5 : Int × Int) (t6 : Int) (t7 : Int × Int) (t8 : Int) (t9 : Int × Int) (t10 : Int) (t11 : Int) (t12 : Int × Int) (t13 : Int) (t14 : Int × Int) (t15 : Int) (t16 : Int × Int) (t17 : Int) (t18 : Int × Int) (t19 : Bool) (t20 : Bool) : γ := bif t1
  then k (1, 0, true)
  else bif t2
   then k (1, 0, true)
   else bif t3.fst == t4.fdiv (2 ^ min (Int.toNat 63) IntKind.i64.bits)
    then bif t5.fst == t6.fdiv (2 ^ min (Int.toNat 63) IntKind.i64.bits)
     then bif t7.fst == t8.fdiv (2 ^ min (Int.toNat 63) IntKind.i64.bits)
      then bif t9.fst == t10.fdiv (2 ^ min (Int.toNat 63) IntKind.i64.bits)
       then k (t18.fst, t18.snd, t9.fst == t10.fdiv (2 ^ min (Int.toNat 63) IntKind.i64.bits))
       else bif t19
        then bif t20
         then k (t18.fst, t18.snd, t9.fst == t10.fdiv (2 ^ min (Int.toNat 63) IntKind.i64.bits))
         else k (-9223372036854775808, 9223372036854775807, false)
        else k (-9223372036854775808, 9223372036854775807, false)
      else bif t19
       then bif t20
        then k (t18.fst, t18.snd, false)
        else k (-9223372036854775808, 9223372036854775807, false)
       else k (-9223372036854775808, 9223372036854775807, false)
     else bif t19
      then bif t20
       then k (t18.fst, t18.snd, false)
       else k (-9223372036854775808, 9223372036854775807, false)
      else k (-9223372036854775808, 9223372036854775807, false)
    else bif t19
     then bif t20
      then k (t18.fst, t18.snd, false)
      else k (-9223372036854775808, 9223372036854775807, false)
     else k (-9223372036854775808, 9223372036854775807, false)
def ival_Mul.c {γ : Type} (k : Int × Int × Bool → γ) (a0 : Int) (a1 : Int) (b0 : Int) (b1 : Int) : γ := let t1 := ival_none a0 a1; let t2 := ival_none b0 b1; let t3 := word_Wide a0 b0; let t4 := IntKind.i64.wrap t3.snd; let t5 := word_Wide a0 b1; let t6 := IntKind.i64.wrap t5.snd; let t7 := word_Wide a1 b0; let t8 := IntKind.i64.wrap t7.snd; let t9 := word_Wide a1 b1; let t10 := IntKind.i64.wrap t9.snd; let t11 := word_Mul a0 b0; let t12 := ival_Join 1 0 t11 t11; let t13 := word_Mul a0 b1; let t14 := ival_Join t12.fst t12.snd t13 t13; let t15 := word_Mul a1 b0; let t16 := ival_Join t14.fst t14.snd t15 t15; let t17 := word_Mul a1 b1; let t18 := ival_Join t16.fst t16.snd t17 t17; let t19 := ival_one a0 a1; let t20 := ival_one b0 b1; ival_Mul.c0 k a0 a1 b0 b1 t1 t2 t3 t4 t5 t6 t7 t8 t9 t10 t11 t12 t13 t14 t15 t16 t17 t18 t19 t20
def ival_Mul (a0 : Int) (a1 : Int) (b0 : Int) (b1 : Int) : Int × Int × Bool := ival_Mul.c id a0 a1 b0 b1
def ival_Mul.F : FV := mkF (cP (cA (cP (cI .i64) (cP (cI .i64) cU))) (cP (cA (cP (cI .i64) (cP (cI .i64) cU))) cU)) (fun _ => true) (fun | ((a0, (a1, ())), ((b0, (b1, ())), ())) => .tuple #[.agg #[.int .i64 (ival_Mul a0 a1 b0 b1).1, .int .i64 (ival_Mul a0 a1 b0 b1).2.1], .bool (ival_Mul a0 a1 b0 b1).2.2])
def L_ival_Mul : TL := (25, ival_Mul.F) :: L_law_works
theorem ival_Mul.p0 {γ : Type} (k : Int × Int × Bool → γ) (a0 : Int) (a1 : Int) (b0 : Int) (b1 : Int) (t1 : Bool) (t2 : Bool) (t3 : Int × Int) (t4 : Int) (t5 : Int × Int) (t6 : Int) (t7 : Int × Int) (t8 : Int) (t9 : Int × Int) (t10 : Int) (t11 : Int) (t12 : Int × Int) (t13 : Int) (t14 : Int × Int) (t15 : Int) (t16 : Int × Int) (t17 : Int) (t18 : Int × Int) (t19 : Bool) (t20 : Bool) : ival_Mul.c0 k a0 a1 b0 b1 t1 t2 t3 t4 t5 t6 t7 t8 t9 t10 t11 t12 t13 t14 t15 t16 t17 t18 t19 t20 = k (ival_Mul.c0 id a0 a1 b0 b1 t1 t2 t3 t4 t5 t6 t7 t8 t9 t10 t11 t12 t13 t14 t15 t16 t17 t18 t19 t20) := by
  unfold ival_Mul.c0; (repeat' (first | (apply pc k) | (exact rfl)))
theorem ival_Mul.p {γ : Type} (k : Int × Int × Bool → γ) (a0 : Int) (a1 : Int) (b0 : Int) (b1 : Int) : ival_Mul.c k a0 a1 b0 b1 = k (ival_Mul a0 a1 b0 b1) :=
  let t1 := ival_none a0 a1; let t2 := ival_none b0 b1; let t3 := word_Wide a0 b0; let t4 := IntKind.i64.wrap t3.snd; let t5 := word_Wide a0 b1; let t6 := IntKind.i64.wrap t5.snd; let t7 := word_Wide a1 b0; let t8 := IntKind.i64.wrap t7.snd; let t9 := word_Wide a1 b1; let t10 := IntKind.i64.wrap t9.snd; let t11 := word_Mul a0 b0; let t12 := ival_Join 1 0 t11 t11; let t13 := word_Mul a0 b1; let t14 := ival_Join t12.fst t12.snd t13 t13; let t15 := word_Mul a1 b0; let t16 := ival_Join t14.fst t14.snd t15 t15; let t17 := word_Mul a1 b1; let t18 := ival_Join t16.fst t16.snd t17 t17; let t19 := ival_one a0 a1; let t20 := ival_one b0 b1; ival_Mul.p0 k a0 a1 b0 b1 t1 t2 t3 t4 t5 t6 t7 t8 t9 t10 t11 t12 t13 t14 t15 t16 t17 t18 t19 t20
theorem ival_Mul.r (a0 : Int) (a1 : Int) (b0 : Int) (b1 : Int) : runF P G (tab L_law_works) { merge := true } 60 Tryd.f25 [.agg #[.int .i64 a0, .int .i64 a1], .agg #[.int .i64 b0, .int .i64 b1]] = ival_Mul.c (fun q => some (.tuple #[.agg #[.int .i64 (q).1, .int .i64 (q).2.1], .bool (q).2.2] : Value)) a0 a1 b0 b1 := by kernel_rfl
theorem ival_Mul.t : TabOK P G (tab L_ival_Mul) :=
  TabOK_mk C law_works.t Tryd.func25 (by kernel_rfl) true 60 (by
    rintro ⟨⟨a0, ⟨a1, ⟨⟩⟩⟩, ⟨⟨b0, ⟨b1, ⟨⟩⟩⟩, ⟨⟩⟩⟩ h
    exact (ival_Mul.r a0 a1 b0 b1).trans (ival_Mul.p (fun q => some (.tuple #[.agg #[.int .i64 (q).1, .int .i64 (q).2.1], .bool (q).2.2] : Value)) a0 a1 b0 b1))

def ival_cornersQ.c0 {γ : Type} (k : Int × Int → γ) (a0 : Int) (a1 : Int) (b0 : Int) (b1 : Int) (t1 : Bool) (t2 : Bool) (t3 : Int × Bool) (t4 : Int × Int) (t5 : Int × Bool) (t6 : Int × Int) (t7 : Int × Bool) (t8 : Int × Int) (t9 : Int × Bool) (t10 : Int × Int) : γ := bif t1
  then k (1, 0)
  else bif t2
   then k (1, 0)
   else k (t10.fst, t10.snd)
def ival_cornersQ.c {γ : Type} (k : Int × Int → γ) (a0 : Int) (a1 : Int) (b0 : Int) (b1 : Int) : γ := let t1 := ival_none a0 a1; let t2 := ival_none b0 b1; let t3 := word_Div a0 b0; let t4 := ival_Join 1 0 t3.fst t3.fst; let t5 := word_Div a0 b1; let t6 := ival_Join t4.fst t4.snd t5.fst t5.fst; let t7 := word_Div a1 b0; let t8 := ival_Join t6.fst t6.snd t7.fst t7.fst; let t9 := word_Div a1 b1; let t10 := ival_Join t8.fst t8.snd t9.fst t9.fst; ival_cornersQ.c0 k a0 a1 b0 b1 t1 t2 t3 t4 t5 t6 t7 t8 t9 t10
def ival_cornersQ (a0 : Int) (a1 : Int) (b0 : Int) (b1 : Int) : Int × Int := ival_cornersQ.c id a0 a1 b0 b1
def ival_cornersQ.F : FV := mkF (cP (cA (cP (cI .i64) (cP (cI .i64) cU))) (cP (cA (cP (cI .i64) (cP (cI .i64) cU))) (cP (cF 57) cU))) (fun _ => true) (fun | ((a0, (a1, ())), ((b0, (b1, ())), ((), ()))) => .agg #[.int .i64 (ival_cornersQ a0 a1 b0 b1).1, .int .i64 (ival_cornersQ a0 a1 b0 b1).2])
def L_ival_cornersQ : TL := (49, ival_cornersQ.F) :: L_ival_Mul
theorem ival_cornersQ.p0 {γ : Type} (k : Int × Int → γ) (a0 : Int) (a1 : Int) (b0 : Int) (b1 : Int) (t1 : Bool) (t2 : Bool) (t3 : Int × Bool) (t4 : Int × Int) (t5 : Int × Bool) (t6 : Int × Int) (t7 : Int × Bool) (t8 : Int × Int) (t9 : Int × Bool) (t10 : Int × Int) : ival_cornersQ.c0 k a0 a1 b0 b1 t1 t2 t3 t4 t5 t6 t7 t8 t9 t10 = k (ival_cornersQ.c0 id a0 a1 b0 b1 t1 t2 t3 t4 t5 t6 t7 t8 t9 t10) := by
  unfold ival_cornersQ.c0; (repeat' (first | (apply pc k) | (exact rfl)))
theorem ival_cornersQ.p {γ : Type} (k : Int × Int → γ) (a0 : Int) (a1 : Int) (b0 : Int) (b1 : Int) : ival_cornersQ.c k a0 a1 b0 b1 = k (ival_cornersQ a0 a1 b0 b1) :=
  let t1 := ival_none a0 a1; let t2 := ival_none b0 b1; let t3 := word_Div a0 b0; let t4 := ival_Join 1 0 t3.fst t3.fst; let t5 := word_Div a0 b1; let t6 := ival_Join t4.fst t4.snd t5.fst t5.fst; let t7 := word_Div a1 b0; let t8 := ival_Join t6.fst t6.snd t7.fst t7.fst; let t9 := word_Div a1 b1; let t10 := ival_Join t8.fst t8.snd t9.fst t9.fst; ival_cornersQ.p0 k a0 a1 b0 b1 t1 t2 t3 t4 t5 t6 t7 t8 t9 t10
theorem ival_cornersQ.r (a0 : Int) (a1 : Int) (b0 : Int) (b1 : Int) : runF P G (tab L_ival_Mul) { merge := true } 60 Tryd.f49 [.agg #[.int .i64 a0, .int .i64 a1], .agg #[.int .i64 b0, .int .i64 b1], .func (.func 57) #[] #[]] = ival_cornersQ.c (fun q => some (.agg #[.int .i64 (q).1, .int .i64 (q).2] : Value)) a0 a1 b0 b1 := by kernel_rfl
theorem ival_cornersQ.t : TabOK P G (tab L_ival_cornersQ) :=
  TabOK_mk C ival_Mul.t Tryd.func49 (by kernel_rfl) true 60 (by
    rintro ⟨⟨a0, ⟨a1, ⟨⟩⟩⟩, ⟨⟨b0, ⟨b1, ⟨⟩⟩⟩, ⟨⟨⟩, ⟨⟩⟩⟩⟩ h
    exact (ival_cornersQ.r a0 a1 b0 b1).trans (ival_cornersQ.p (fun q => some (.agg #[.int .i64 (q).1, .int .i64 (q).2] : Value)) a0 a1 b0 b1))

def ival_Div.c0 {γ : Type} (k : Int × Int × Bool → γ) (a0 : Int) (a1 : Int) (b0 : Int) (b1 : Int) (t1 : Bool) (t2 : Bool) (t3 : Bool) (t4 : Bool) (t5 : Int × Int) (t6 : Bool) (t7 : Int × Int) (t8 : Bool) (t9 : Int × Int) (t10 : Int × Int) (t11 : Int × Int) (t12 : Int × Int) (t13 : Int × Int) (t14 : Int × Int) (t15 : Int × Int) (t16 : Int × Int) (t17 : Int × Int) (t18 : Int × Int) (t19 : Int × Int) (t20 : Int × Int) (t21 : Int × Int) (t22 : Int × Int) (t23 : Int × Int) (t24 : Int × Int) (t25 : Int × Int) (t26 : Int × Int) (t27 : Int × Int) (t28 : Int × Int) : γ := bif t1
  then k (1, 0, true)
  else bif t2
   then k (1, 0, true)
   else bif t3
    then bif t4
     then bif t6
      then bif t4
       then bif t8
        then k (t20.fst, t20.snd, !t4)
        else k (t22.fst, t22.snd, !t4)
       else k (t22.fst, t22.snd, !t4)
      else bif t4
       then bif t8
        then k (t27.fst, t27.snd, !t4)
        else k (t28.fst, t28.snd, !t4)
       else k (t28.fst, t28.snd, !t4)
     else bif t4
      then bif t8
       then k (t27.fst, t27.snd, !t4)
       else k (t28.fst, t28.snd, !t4)
      else k (t28.fst, t28.snd, !t4)
    else k (t28.fst, t28.snd, !false)
def ival_Div.c {γ : Type} (k : Int × Int × Bool → γ) (a0 : Int) (a1 : Int) (b0 : Int) (b1 : Int) : γ := let t1 := ival_none a0 a1; let t2 := ival_none b0 b1; let t3 := ival_Has a0 a1 (-9223372036854775808); let t4 := ival_Has b0 b1 (-1); let t5 := ival_under b0 b1; let t6 := ival_Has t5.fst t5.snd (-1); let t7 := ival_over b0 b1; let t8 := ival_Has t7.fst t7.snd (-1); let t9 := ival_Join 1 0 (-9223372036854775808) (-9223372036854775808); let t10 := ival_Meet a0 a1 (-9223372036854775807) 9223372036854775807; let t11 := ival_cornersQ t10.fst t10.snd (-1) (-1); let t12 := ival_Join t9.fst t9.snd t11.fst t11.snd; let t13 := ival_Meet t5.fst t5.snd (-9223372036854775808) (-2); let t14 := ival_cornersQ a0 a1 t13.fst t13.snd; let t15 := ival_Join t12.fst t12.snd t14.fst t14.snd; let t16 := ival_Join t15.fst t15.snd (-9223372036854775808) (-9223372036854775808); let t17 := ival_Join t16.fst t16.snd t11.fst t11.snd; let t18 := ival_Meet t7.fst t7.snd (-9223372036854775808) (-2); let t19 := ival_cornersQ a0 a1 t18.fst t18.snd; let t20 := ival_Join t17.fst t17.snd t19.fst t19.snd; let t21 := ival_cornersQ a0 a1 t7.fst t7.snd; let t22 := ival_Join t15.fst t15.snd t21.fst t21.snd; let t23 := ival_cornersQ a0 a1 t5.fst t5.snd; let t24 := ival_Join 1 0 t23.fst t23.snd; let t25 := ival_Join t24.fst t24.snd (-9223372036854775808) (-9223372036854775808); let t26 := ival_Join t25.fst t25.snd t11.fst t11.snd; let t27 := ival_Join t26.fst t26.snd t19.fst t19.snd; let t28 := ival_Join t24.fst t24.snd t21.fst t21.snd; ival_Div.c0 k a0 a1 b0 b1 t1 t2 t3 t4 t5 t6 t7 t8 t9 t10 t11 t12 t13 t14 t15 t16 t17 t18 t19 t20 t21 t22 t23 t24 t25 t26 t27 t28
def ival_Div (a0 : Int) (a1 : Int) (b0 : Int) (b1 : Int) : Int × Int × Bool := ival_Div.c id a0 a1 b0 b1
def ival_Div.F : FV := mkF (cP (cA (cP (cI .i64) (cP (cI .i64) cU))) (cP (cA (cP (cI .i64) (cP (cI .i64) cU))) cU)) (fun _ => true) (fun | ((a0, (a1, ())), ((b0, (b1, ())), ())) => .tuple #[.agg #[.int .i64 (ival_Div a0 a1 b0 b1).1, .int .i64 (ival_Div a0 a1 b0 b1).2.1], .bool (ival_Div a0 a1 b0 b1).2.2])
def L_ival_Div : TL := (27, ival_Div.F) :: L_ival_cornersQ
theorem ival_Div.p0 {γ : Type} (k : Int × Int × Bool → γ) (a0 : Int) (a1 : Int) (b0 : Int) (b1 : Int) (t1 : Bool) (t2 : Bool) (t3 : Bool) (t4 : Bool) (t5 : Int × Int) (t6 : Bool) (t7 : Int × Int) (t8 : Bool) (t9 : Int × Int) (t10 : Int × Int) (t11 : Int × Int) (t12 : Int × Int) (t13 : Int × Int) (t14 : Int × Int) (t15 : Int × Int) (t16 : Int × Int) (t17 : Int × Int) (t18 : Int × Int) (t19 : Int × Int) (t20 : Int × Int) (t21 : Int × Int) (t22 : Int × Int) (t23 : Int × Int) (t24 : Int × Int) (t25 : Int × Int) (t26 : Int × Int) (t27 : Int × Int) (t28 : Int × Int) : ival_Div.c0 k a0 a1 b0 b1 t1 t2 t3 t4 t5 t6 t7 t8 t9 t10 t11 t12 t13 t14 t15 t16 t17 t18 t19 t20 t21 t22 t23 t24 t25 t26 t27 t28 = k (ival_Div.c0 id a0 a1 b0 b1 t1 t2 t3 t4 t5 t6 t7 t8 t9 t10 t11 t12 t13 t14 t15 t16 t17 t18 t19 t20 t21 t22 t23 t24 t25 t26 t27 t28) := by
  unfold ival_Div.c0; (repeat' (first | (apply pc k) | (exact rfl)))
theorem ival_Div.p {γ : Type} (k : Int × Int × Bool → γ) (a0 : Int) (a1 : Int) (b0 : Int) (b1 : Int) : ival_Div.c k a0 a1 b0 b1 = k (ival_Div a0 a1 b0 b1) :=
  let t1 := ival_none a0 a1; let t2 := ival_none b0 b1; let t3 := ival_Has a0 a1 (-9223372036854775808); let t4 := ival_Has b0 b1 (-1); let t5 := ival_under b0 b1; let t6 := ival_Has t5.fst t5.snd (-1); let t7 := ival_over b0 b1; let t8 := ival_Has t7.fst t7.snd (-1); let t9 := ival_Join 1 0 (-9223372036854775808) (-9223372036854775808); let t10 := ival_Meet a0 a1 (-9223372036854775807) 9223372036854775807; let t11 := ival_cornersQ t10.fst t10.snd (-1) (-1); let t12 := ival_Join t9.fst t9.snd t11.fst t11.snd; let t13 := ival_Meet t5.fst t5.snd (-9223372036854775808) (-2); let t14 := ival_cornersQ a0 a1 t13.fst t13.snd; let t15 := ival_Join t12.fst t12.snd t14.fst t14.snd; let t16 := ival_Join t15.fst t15.snd (-9223372036854775808) (-9223372036854775808); let t17 := ival_Join t16.fst t16.snd t11.fst t11.snd; let t18 := ival_Meet t7.fst t7.snd (-9223372036854775808) (-2); let t19 := ival_cornersQ a0 a1 t18.fst t18.snd; let t20 := ival_Join t17.fst t17.snd t19.fst t19.snd; let t21 := ival_cornersQ a0 a1 t7.fst t7.snd; let t22 := ival_Join t15.fst t15.snd t21.fst t21.snd; let t23 := ival_cornersQ a0 a1 t5.fst t5.snd; let t24 := ival_Join 1 0 t23.fst t23.snd; let t25 := ival_Join t24.fst t24.snd (-9223372036854775808) (-9223372036854775808); let t26 := ival_Join t25.fst t25.snd t11.fst t11.snd; let t27 := ival_Join t26.fst t26.snd t19.fst t19.snd; let t28 := ival_Join t24.fst t24.snd t21.fst t21.snd; ival_Div.p0 k a0 a1 b0 b1 t1 t2 t3 t4 t5 t6 t7 t8 t9 t10 t11 t12 t13 t14 t15 t16 t17 t18 t19 t20 t21 t22 t23 t24 t25 t26 t27 t28
theorem ival_Div.r (a0 : Int) (a1 : Int) (b0 : Int) (b1 : Int) : runF P G (tab L_ival_cornersQ) { merge := true } 60 Tryd.f27 [.agg #[.int .i64 a0, .int .i64 a1], .agg #[.int .i64 b0, .int .i64 b1]] = ival_Div.c (fun q => some (.tuple #[.agg #[.int .i64 (q).1, .int .i64 (q).2.1], .bool (q).2.2] : Value)) a0 a1 b0 b1 := by kernel_rfl
theorem ival_Div.t : TabOK P G (tab L_ival_Div) :=
  TabOK_mk C ival_cornersQ.t Tryd.func27 (by kernel_rfl) true 60 (by
    rintro ⟨⟨a0, ⟨a1, ⟨⟩⟩⟩, ⟨⟨b0, ⟨b1, ⟨⟩⟩⟩, ⟨⟩⟩⟩ h
    exact (ival_Div.r a0 a1 b0 b1).trans (ival_Div.p (fun q => some (.tuple #[.agg #[.int .i64 (q).1, .int .i64 (q).2.1], .bool (q).2.2] : Value)) a0 a1 b0 b1))

def ival_Rem.c0 {γ : Type} (k : Int × Int × Bool → γ) (a0 : Int) (a1 : Int) (b0 : Int) (b1 : Int) (t1 : Bool) (t2 : Bool) (t3 : Int × Int) (t4 : Bool) (t5 : Int × Int) (t6 : Bool) (t7 : Bool) (t8 : Bool) (t9 : Int × Bool) (t10 : Int) (t11 : Int) (t12 : Int) (t13 : Int) (t14 : Int) (t15 : Int) (t16 : Int) (t17 : Int) (t18 : Int) (t19 : Int) (t20 : Int) (t21 : Int) (t22 : Int) (t23 : Int) (t24 : Int) (t25 : Int) (t26 : Int) (t27 : Int) (t28 : Int) (t29 : Int) (t30 : Int) (t31 : Int) (t32 : Int) (t33 : Int) : γ := bif t1
  then k (1, 0, true)
  else bif t2
   then k (1, 0, true)
   else bif t4
    then bif t6
     then k (1, 0, true)
     else bif t7
      then bif t8
       then k (t9.fst, t9.fst, true)
       else bif decide (t12 < t22)
        then k (a0, a1, true)
        else bif decide (a0 < 0)
         then bif decide (a1 > 0)
          then k (t32, t33, true)
          else k (t32, 0, true)
         else bif decide (a1 > 0)
          then k (0, t33, true)
          else k (0, 0, true)
      else bif decide (t12 < t22)
       then k (a0, a1, true)
       else bif decide (a0 < 0)
        then bif decide (a1 > 0)
         then k (t32, t33, true)
         else k (t32, 0, true)
        else bif decide (a1 > 0)
         then k (0, t33, true)
         else k (0, 0, true)
    else bif t7
     then bif t8
      then k (t9.fst, t9.fst, true)
      else bif decide (t12 < t22)
       then k (a0, a1, true)
       else bif decide (a0 < 0)
        then bif decide (a1 > 0)
         then k (t32, t33, true)
         else k (t32, 0, true)
        else bif decide (a1 > 0)
         then k (0, t33, true)
         else k (0, 0, true)
     else bif decide (t12 < t22)
      then k (a0, a1, true)
      else bif decide (a0 < 0)
       then bif decide (a1 > 0)
        then k (t32, t33, true)
        else k (t32, 0, true)
       else bif decide (a1 > 0)
        then k (0, t33, true)
        else k (0, 0, true)
def ival_Rem.c {γ : Type} (k : Int × Int × Bool → γ) (a0 : Int) (a1 : Int) (b0 : Int) (b1 : Int) : γ := let t1 := ival_none a0 a1; let t2 := ival_none b0 b1; let t3 := ival_under b0 b1; let t4 := ival_none t3.fst t3.snd; let t5 := ival_over b0 b1; let t6 := ival_none t5.fst t5.snd; let t7 := ival_one a0 a1; let t8 := ival_one b0 b1; let t9 := word_Rem a0 b0; let t10 := ival_distance a1; let t11 := ival_distance a0; let t12 := if t10 > t11 then t10 else t11; let t13 := ival_distance t5.snd; let t14 := ival_distance t5.fst; let t15 := ival_distance t3.snd; let t16 := ival_distance t3.fst; let t17 := if t16 < 18446744073709551615 then t16 else 18446744073709551615; let t18 := if t15 < t17 then t15 else t17; let t19 := bif !t4 then t18 else 18446744073709551615; let t20 := if t14 < t19 then t14 else t19; let t21 := if t13 < t20 then t13 else t20; let t22 := bif !t6 then t21 else t19; let t23 := if t16 > 0 then t16 else 0; let t24 := if t15 > t23 then t15 else t23; let t25 := bif !t4 then t24 else 0; let t26 := if t14 > t25 then t14 else t25; let t27 := if t13 > t26 then t13 else t26; let t28 := bif !t6 then t27 else t25; let t29 := IntKind.u64.wrap (t28 - 1); let t30 := IntKind.i64.wrap t29; let t31 := IntKind.i64.wrap (0 - t30); let t32 := if t31 > a0 then t31 else a0; let t33 := if t30 < a1 then t30 else a1; ival_Rem.c0 k a0 a1 b0 b1 t1 t2 t3 t4 t5 t6 t7 t8 t9 t10 t11 t12 t13 t14 t15 t16 t17 t18 t19 t20 t21 t22 t23 t24 t25 t26 t27 t28 t29 t30 t31 t32 t33
def ival_Rem (a0 : Int) (a1 : Int) (b0 : Int) (b1 : Int) : Int × Int × Bool := ival_Rem.c id a0 a1 b0 b1
def ival_Rem.F : FV := mkF (cP (cA (cP (cI .i64) (cP (cI .i64) cU))) (cP (cA (cP (cI .i64) (cP (cI .i64) cU))) cU)) (fun _ => true) (fun | ((a0, (a1, ())), ((b0, (b1, ())), ())) => .tuple #[.agg #[.int .i64 (ival_Rem a0 a1 b0 b1).1, .int .i64 (ival_Rem a0 a1 b0 b1).2.1], .bool (ival_Rem a0 a1 b0 b1).2.2])
def L_ival_Rem : TL := (29, ival_Rem.F) :: L_ival_Div
theorem ival_Rem.p0 {γ : Type} (k : Int × Int × Bool → γ) (a0 : Int) (a1 : Int) (b0 : Int) (b1 : Int) (t1 : Bool) (t2 : Bool) (t3 : Int × Int) (t4 : Bool) (t5 : Int × Int) (t6 : Bool) (t7 : Bool) (t8 : Bool) (t9 : Int × Bool) (t10 : Int) (t11 : Int) (t12 : Int) (t13 : Int) (t14 : Int) (t15 : Int) (t16 : Int) (t17 : Int) (t18 : Int) (t19 : Int) (t20 : Int) (t21 : Int) (t22 : Int) (t23 : Int) (t24 : Int) (t25 : Int) (t26 : Int) (t27 : Int) (t28 : Int) (t29 : Int) (t30 : Int) (t31 : Int) (t32 : Int) (t33 : Int) : ival_Rem.c0 k a0 a1 b0 b1 t1 t2 t3 t4 t5 t6 t7 t8 t9 t10 t11 t12 t13 t14 t15 t16 t17 t18 t19 t20 t21 t22 t23 t24 t25 t26 t27 t28 t29 t30 t31 t32 t33 = k (ival_Rem.c0 id a0 a1 b0 b1 t1 t2 t3 t4 t5 t6 t7 t8 t9 t10 t11 t12 t13 t14 t15 t16 t17 t18 t19 t20 t21 t22 t23 t24 t25 t26 t27 t28 t29 t30 t31 t32 t33) := by
  unfold ival_Rem.c0; (repeat' (first | (apply pc k) | (exact rfl)))
theorem ival_Rem.p {γ : Type} (k : Int × Int × Bool → γ) (a0 : Int) (a1 : Int) (b0 : Int) (b1 : Int) : ival_Rem.c k a0 a1 b0 b1 = k (ival_Rem a0 a1 b0 b1) :=
  let t1 := ival_none a0 a1; let t2 := ival_none b0 b1; let t3 := ival_under b0 b1; let t4 := ival_none t3.fst t3.snd; let t5 := ival_over b0 b1; let t6 := ival_none t5.fst t5.snd; let t7 := ival_one a0 a1; let t8 := ival_one b0 b1; let t9 := word_Rem a0 b0; let t10 := ival_distance a1; let t11 := ival_distance a0; let t12 := if t10 > t11 then t10 else t11; let t13 := ival_distance t5.snd; let t14 := ival_distance t5.fst; let t15 := ival_distance t3.snd; let t16 := ival_distance t3.fst; let t17 := if t16 < 18446744073709551615 then t16 else 18446744073709551615; let t18 := if t15 < t17 then t15 else t17; let t19 := bif !t4 then t18 else 18446744073709551615; let t20 := if t14 < t19 then t14 else t19; let t21 := if t13 < t20 then t13 else t20; let t22 := bif !t6 then t21 else t19; let t23 := if t16 > 0 then t16 else 0; let t24 := if t15 > t23 then t15 else t23; let t25 := bif !t4 then t24 else 0; let t26 := if t14 > t25 then t14 else t25; let t27 := if t13 > t26 then t13 else t26; let t28 := bif !t6 then t27 else t25; let t29 := IntKind.u64.wrap (t28 - 1); let t30 := IntKind.i64.wrap t29; let t31 := IntKind.i64.wrap (0 - t30); let t32 := if t31 > a0 then t31 else a0; let t33 := if t30 < a1 then t30 else a1; ival_Rem.p0 k a0 a1 b0 b1 t1 t2 t3 t4 t5 t6 t7 t8 t9 t10 t11 t12 t13 t14 t15 t16 t17 t18 t19 t20 t21 t22 t23 t24 t25 t26 t27 t28 t29 t30 t31 t32 t33
theorem ival_Rem.r (a0 : Int) (a1 : Int) (b0 : Int) (b1 : Int) : runF P G (tab L_ival_Div) { merge := true } 60 Tryd.f29 [.agg #[.int .i64 a0, .int .i64 a1], .agg #[.int .i64 b0, .int .i64 b1]] = ival_Rem.c (fun q => some (.tuple #[.agg #[.int .i64 (q).1, .int .i64 (q).2.1], .bool (q).2.2] : Value)) a0 a1 b0 b1 := by kernel_rfl
theorem ival_Rem.t : TabOK P G (tab L_ival_Rem) :=
  TabOK_mk C ival_Div.t Tryd.func29 (by kernel_rfl) true 60 (by
    rintro ⟨⟨a0, ⟨a1, ⟨⟩⟩⟩, ⟨⟨b0, ⟨b1, ⟨⟩⟩⟩, ⟨⟩⟩⟩ h
    exact (ival_Rem.r a0 a1 b0 b1).trans (ival_Rem.p (fun q => some (.tuple #[.agg #[.int .i64 (q).1, .int .i64 (q).2.1], .bool (q).2.2] : Value)) a0 a1 b0 b1))

def ref_Of.c0 {γ : Type} (k : Int × Int → γ) (a : Int) (t1 : Int) : γ := k (a.fdiv (2 ^ min (Int.toNat 63) IntKind.i64.bits), t1)
def ref_Of.c {γ : Type} (k : Int × Int → γ) (a : Int) : γ := let t1 := IntKind.u64.wrap a; ref_Of.c0 k a t1
def ref_Of (a : Int) : Int × Int := ref_Of.c id a
def ref_Of.F : FV := mkF (cP (cI .i64) cU) (fun _ => true) (fun | (a, ()) => .agg #[.int .i64 (ref_Of a).1, .int .u64 (ref_Of a).2])
def L_ref_Of : TL := (42, ref_Of.F) :: L_ival_Rem
theorem ref_Of.p0 {γ : Type} (k : Int × Int → γ) (a : Int) (t1 : Int) : ref_Of.c0 k a t1 = k (ref_Of.c0 id a t1) := by
  unfold ref_Of.c0; (repeat' (first | (apply pc k) | (exact rfl)))
theorem ref_Of.p {γ : Type} (k : Int × Int → γ) (a : Int) : ref_Of.c k a = k (ref_Of a) :=
  let t1 := IntKind.u64.wrap a; ref_Of.p0 k a t1
theorem ref_Of.r (a : Int) : runF P G (tab L_ival_Rem) { merge := true } 60 Tryd.f42 [.int .i64 a] = ref_Of.c (fun q => some (.agg #[.int .i64 (q).1, .int .u64 (q).2] : Value)) a := by kernel_rfl
theorem ref_Of.t : TabOK P G (tab L_ref_Of) :=
  TabOK_mk C ival_Rem.t Tryd.func42 (by kernel_rfl) true 60 (by
    rintro ⟨a, ⟨⟩⟩ h
    exact (ref_Of.r a).trans (ref_Of.p (fun q => some (.agg #[.int .i64 (q).1, .int .u64 (q).2] : Value)) a))

def ref_plus.c0 {γ : Type} (k : Int × Int → γ) (a0 : Int) (a1 : Int) (b0 : Int) (b1 : Int) (t1 : Int) (t2 : Int) (t3 : Int) : γ := bif decide (t1 < a1)
  then k (t3, t1)
  else k (t2, t1)
def ref_plus.c {γ : Type} (k : Int × Int → γ) (a0 : Int) (a1 : Int) (b0 : Int) (b1 : Int) : γ := let t1 := IntKind.u64.wrap (a1 + b1); let t2 := IntKind.i64.wrap (a0 + b0); let t3 := IntKind.i64.wrap (t2 + 1); ref_plus.c0 k a0 a1 b0 b1 t1 t2 t3
def ref_plus (a0 : Int) (a1 : Int) (b0 : Int) (b1 : Int) : Int × Int := ref_plus.c id a0 a1 b0 b1
def ref_plus.F : FV := mkF (cP (cA (cP (cI .i64) (cP (cI .u64) cU))) (cP (cA (cP (cI .i64) (cP (cI .u64) cU))) cU)) (fun _ => true) (fun | ((a0, (a1, ())), ((b0, (b1, ())), ())) => .agg #[.int .i64 (ref_plus a0 a1 b0 b1).1, .int .u64 (ref_plus a0 a1 b0 b1).2])
def L_ref_plus : TL := (46, ref_plus.F) :: L_ref_Of
theorem ref_plus.p0 {γ : Type} (k : Int × Int → γ) (a0 : Int) (a1 : Int) (b0 : Int) (b1 : Int) (t1 : Int) (t2 : Int) (t3 : Int) : ref_plus.c0 k a0 a1 b0 b1 t1 t2 t3 = k (ref_plus.c0 id a0 a1 b0 b1 t1 t2 t3) := by
  unfold ref_plus.c0; (repeat' (first | (apply pc k) | (exact rfl)))
theorem ref_plus.p {γ : Type} (k : Int × Int → γ) (a0 : Int) (a1 : Int) (b0 : Int) (b1 : Int) : ref_plus.c k a0 a1 b0 b1 = k (ref_plus a0 a1 b0 b1) :=
  let t1 := IntKind.u64.wrap (a1 + b1); let t2 := IntKind.i64.wrap (a0 + b0); let t3 := IntKind.i64.wrap (t2 + 1); ref_plus.p0 k a0 a1 b0 b1 t1 t2 t3
theorem ref_plus.r (a0 : Int) (a1 : Int) (b0 : Int) (b1 : Int) : runF P G (tab L_ref_Of) { merge := true } 60 Tryd.f46 [.agg #[.int .i64 a0, .int .u64 a1], .agg #[.int .i64 b0, .int .u64 b1]] = ref_plus.c (fun q => some (.agg #[.int .i64 (q).1, .int .u64 (q).2] : Value)) a0 a1 b0 b1 := by kernel_rfl
theorem ref_plus.t : TabOK P G (tab L_ref_plus) :=
  TabOK_mk C ref_Of.t Tryd.func46 (by kernel_rfl) true 60 (by
    rintro ⟨⟨a0, ⟨a1, ⟨⟩⟩⟩, ⟨⟨b0, ⟨b1, ⟨⟩⟩⟩, ⟨⟩⟩⟩ h
    exact (ref_plus.r a0 a1 b0 b1).trans (ref_plus.p (fun q => some (.agg #[.int .i64 (q).1, .int .u64 (q).2] : Value)) a0 a1 b0 b1))

def ref_minus.c0 {γ : Type} (k : Int × Int → γ) (a0 : Int) (a1 : Int) (b0 : Int) (b1 : Int) (t1 : Int) (t2 : Int) (t3 : Int) : γ := bif decide (a1 < b1)
  then k (t2, t3)
  else k (t1, t3)
def ref_minus.c {γ : Type} (k : Int × Int → γ) (a0 : Int) (a1 : Int) (b0 : Int) (b1 : Int) : γ := let t1 := IntKind.i64.wrap (a0 - b0); let t2 := IntKind.i64.wrap (t1 - 1); let t3 := IntKind.u64.wrap (a1 - b1); ref_minus.c0 k a0 a1 b0 b1 t1 t2 t3
def ref_minus (a0 : Int) (a1 : Int) (b0 : Int) (b1 : Int) : Int × Int := ref_minus.c id a0 a1 b0 b1
def ref_minus.F : FV := mkF (cP (cA (cP (cI .i64) (cP (cI .u64) cU))) (cP (cA (cP (cI .i64) (cP (cI .u64) cU))) cU)) (fun _ => true) (fun | ((a0, (a1, ())), ((b0, (b1, ())), ())) => .agg #[.int .i64 (ref_minus a0 a1 b0 b1).1, .int .u64 (ref_minus a0 a1 b0 b1).2])
def L_ref_minus : TL := (41, ref_minus.F) :: L_ref_plus
theorem ref_minus.p0 {γ : Type} (k : Int × Int → γ) (a0 : Int) (a1 : Int) (b0 : Int) (b1 : Int) (t1 : Int) (t2 : Int) (t3 : Int) : ref_minus.c0 k a0 a1 b0 b1 t1 t2 t3 = k (ref_minus.c0 id a0 a1 b0 b1 t1 t2 t3) := by
  unfold ref_minus.c0; (repeat' (first | (apply pc k) | (exact rfl)))
theorem ref_minus.p {γ : Type} (k : Int × Int → γ) (a0 : Int) (a1 : Int) (b0 : Int) (b1 : Int) : ref_minus.c k a0 a1 b0 b1 = k (ref_minus a0 a1 b0 b1) :=
  let t1 := IntKind.i64.wrap (a0 - b0); let t2 := IntKind.i64.wrap (t1 - 1); let t3 := IntKind.u64.wrap (a1 - b1); ref_minus.p0 k a0 a1 b0 b1 t1 t2 t3
theorem ref_minus.r (a0 : Int) (a1 : Int) (b0 : Int) (b1 : Int) : runF P G (tab L_ref_plus) { merge := true } 60 Tryd.f41 [.agg #[.int .i64 a0, .int .u64 a1], .agg #[.int .i64 b0, .int .u64 b1]] = ref_minus.c (fun q => some (.agg #[.int .i64 (q).1, .int .u64 (q).2] : Value)) a0 a1 b0 b1 := by kernel_rfl
theorem ref_minus.t : TabOK P G (tab L_ref_minus) :=
  TabOK_mk C ref_plus.t Tryd.func41 (by kernel_rfl) true 60 (by
    rintro ⟨⟨a0, ⟨a1, ⟨⟩⟩⟩, ⟨⟨b0, ⟨b1, ⟨⟩⟩⟩, ⟨⟩⟩⟩ h
    exact (ref_minus.r a0 a1 b0 b1).trans (ref_minus.p (fun q => some (.agg #[.int .i64 (q).1, .int .u64 (q).2] : Value)) a0 a1 b0 b1))

def ref_less.c {γ : Type} (k : Bool → γ) (a0 : Int) (a1 : Int) (b0 : Int) (b1 : Int) : γ := bif decide (a0 < b0)
  then k (true)
  else bif a0 == b0
   then k (decide (a1 < b1))
   else k (false)
def ref_less (a0 : Int) (a1 : Int) (b0 : Int) (b1 : Int) : Bool := ref_less.c id a0 a1 b0 b1
def ref_less.F : FV := mkF (cP (cA (cP (cI .i64) (cP (cI .u64) cU))) (cP (cA (cP (cI .i64) (cP (cI .u64) cU))) cU)) (fun _ => true) (fun | ((a0, (a1, ())), ((b0, (b1, ())), ())) => .bool (ref_less a0 a1 b0 b1))
def L_ref_less : TL := (55, ref_less.F) :: L_ref_minus
theorem ref_less.p {γ : Type} (k : Bool → γ) (a0 : Int) (a1 : Int) (b0 : Int) (b1 : Int) : ref_less.c k a0 a1 b0 b1 = k (ref_less a0 a1 b0 b1) := by
  unfold ref_less ref_less.c; (repeat' (first | (apply pc k) | (exact rfl)))
theorem ref_less.r (a0 : Int) (a1 : Int) (b0 : Int) (b1 : Int) : runF P G (tab L_ref_minus) { merge := true } 60 Tryd.f55 [.agg #[.int .i64 a0, .int .u64 a1], .agg #[.int .i64 b0, .int .u64 b1]] = ref_less.c (fun q => some (.bool (q) : Value)) a0 a1 b0 b1 := by kernel_rfl
theorem ref_less.t : TabOK P G (tab L_ref_less) :=
  TabOK_mk C ref_minus.t Tryd.func55 (by kernel_rfl) true 60 (by
    rintro ⟨⟨a0, ⟨a1, ⟨⟩⟩⟩, ⟨⟨b0, ⟨b1, ⟨⟩⟩⟩, ⟨⟩⟩⟩ h
    exact (ref_less.r a0 a1 b0 b1).trans (ref_less.p (fun q => some (.bool (q) : Value)) a0 a1 b0 b1))

def ref_Fits.c0 {γ : Type} (k : Bool → γ) (a0 : Int) (a1 : Int) (t1 : Int) : γ := k (a0 == t1.fdiv (2 ^ min (Int.toNat 63) IntKind.i64.bits))
def ref_Fits.c {γ : Type} (k : Bool → γ) (a0 : Int) (a1 : Int) : γ := let t1 := IntKind.i64.wrap a1; ref_Fits.c0 k a0 a1 t1
def ref_Fits (a0 : Int) (a1 : Int) : Bool := ref_Fits.c id a0 a1
def ref_Fits.F : FV := mkF (cP (cA (cP (cI .i64) (cP (cI .u64) cU))) cU) (fun _ => true) (fun | ((a0, (a1, ())), ()) => .bool (ref_Fits a0 a1))
def L_ref_Fits : TL := (56, ref_Fits.F) :: L_ref_less
theorem ref_Fits.p0 {γ : Type} (k : Bool → γ) (a0 : Int) (a1 : Int) (t1 : Int) : ref_Fits.c0 k a0 a1 t1 = k (ref_Fits.c0 id a0 a1 t1) := by
  unfold ref_Fits.c0; (repeat' (first | (apply pc k) | (exact rfl)))
theorem ref_Fits.p {γ : Type} (k : Bool → γ) (a0 : Int) (a1 : Int) : ref_Fits.c k a0 a1 = k (ref_Fits a0 a1) :=
  let t1 := IntKind.i64.wrap a1; ref_Fits.p0 k a0 a1 t1
theorem ref_Fits.r (a0 : Int) (a1 : Int) : runF P G (tab L_ref_less) { merge := true } 60 Tryd.f56 [.agg #[.int .i64 a0, .int .u64 a1]] = ref_Fits.c (fun q => some (.bool (q) : Value)) a0 a1 := by kernel_rfl
theorem ref_Fits.t : TabOK P G (tab L_ref_Fits) :=
  TabOK_mk C ref_less.t Tryd.func56 (by kernel_rfl) true 60 (by
    rintro ⟨⟨a0, ⟨a1, ⟨⟩⟩⟩, ⟨⟩⟩ h
    exact (ref_Fits.r a0 a1).trans (ref_Fits.p (fun q => some (.bool (q) : Value)) a0 a1))

def ref_span.c0 {γ : Type} (k : Int × Int × Bool → γ) (a0 : Int) (a1 : Int) (b0 : Int) (b1 : Int) (t1 : Bool) (t2 : Bool) (t3 : Int) (t4 : Int) (t5 : Int × Int) (t6 : Bool) : γ := bif t1
  then bif t2
   then k (t3, t4, true)
   else bif decide (t5.fst > 0)
    then k (-9223372036854775808, 9223372036854775807, false)
    else bif t5.snd == 18446744073709551615
     then k (-9223372036854775808, 9223372036854775807, false)
     else bif t6
      then k (-9223372036854775808, 9223372036854775807, false)
      else k (t3, t4, false)
  else bif decide (t5.fst > 0)
   then k (-9223372036854775808, 9223372036854775807, false)
   else bif t5.snd == 18446744073709551615
    then k (-9223372036854775808, 9223372036854775807, false)
    else bif t6
     then k (-9223372036854775808, 9223372036854775807, false)
     else k (t3, t4, false)
def ref_span.c {γ : Type} (k : Int × Int × Bool → γ) (a0 : Int) (a1 : Int) (b0 : Int) (b1 : Int) : γ := let t1 := ref_Fits a0 a1; let t2 := ref_Fits b0 b1; let t3 := IntKind.i64.wrap a1; let t4 := IntKind.i64.wrap b1; let t5 := ref_minus b0 b1 a0 a1; let t6 := ref_Empty t3 t4; ref_span.c0 k a0 a1 b0 b1 t1 t2 t3 t4 t5 t6
def ref_span (a0 : Int) (a1 : Int) (b0 : Int) (b1 : Int) : Int × Int × Bool := ref_span.c id a0 a1 b0 b1
def ref_span.F : FV := mkF (cP (cA (cP (cI .i64) (cP (cI .u64) cU))) (cP (cA (cP (cI .i64) (cP (cI .u64) cU))) cU)) (fun _ => true) (fun | ((a0, (a1, ())), ((b0, (b1, ())), ())) => .tuple #[.agg #[.int .i64 (ref_span a0 a1 b0 b1).1, .int .i64 (ref_span a0 a1 b0 b1).2.1], .bool (ref_span a0 a1 b0 b1).2.2])
def L_ref_span : TL := (40, ref_span.F) :: L_ref_Fits
theorem ref_span.p0 {γ : Type} (k : Int × Int × Bool → γ) (a0 : Int) (a1 : Int) (b0 : Int) (b1 : Int) (t1 : Bool) (t2 : Bool) (t3 : Int) (t4 : Int) (t5 : Int × Int) (t6 : Bool) : ref_span.c0 k a0 a1 b0 b1 t1 t2 t3 t4 t5 t6 = k (ref_span.c0 id a0 a1 b0 b1 t1 t2 t3 t4 t5 t6) := by
  unfold ref_span.c0; (repeat' (first | (apply pc k) | (exact rfl)))
theorem ref_span.p {γ : Type} (k : Int × Int × Bool → γ) (a0 : Int) (a1 : Int) (b0 : Int) (b1 : Int) : ref_span.c k a0 a1 b0 b1 = k (ref_span a0 a1 b0 b1) :=
  let t1 := ref_Fits a0 a1; let t2 := ref_Fits b0 b1; let t3 := IntKind.i64.wrap a1; let t4 := IntKind.i64.wrap b1; let t5 := ref_minus b0 b1 a0 a1; let t6 := ref_Empty t3 t4; ref_span.p0 k a0 a1 b0 b1 t1 t2 t3 t4 t5 t6
theorem ref_span.r (a0 : Int) (a1 : Int) (b0 : Int) (b1 : Int) : runF P G (tab L_ref_Fits) { merge := true } 60 Tryd.f40 [.agg #[.int .i64 a0, .int .u64 a1], .agg #[.int .i64 b0, .int .u64 b1]] = ref_span.c (fun q => some (.tuple #[.agg #[.int .i64 (q).1, .int .i64 (q).2.1], .bool (q).2.2] : Value)) a0 a1 b0 b1 := by kernel_rfl
theorem ref_span.t : TabOK P G (tab L_ref_span) :=
  TabOK_mk C ref_Fits.t Tryd.func40 (by kernel_rfl) true 60 (by
    rintro ⟨⟨a0, ⟨a1, ⟨⟩⟩⟩, ⟨⟨b0, ⟨b1, ⟨⟩⟩⟩, ⟨⟩⟩⟩ h
    exact (ref_span.r a0 a1 b0 b1).trans (ref_span.p (fun q => some (.tuple #[.agg #[.int .i64 (q).1, .int .i64 (q).2.1], .bool (q).2.2] : Value)) a0 a1 b0 b1))

def ref_Neg.c0 {γ : Type} (k : Int × Int × Bool → γ) (a0 : Int) (a1 : Int) (t1 : Bool) (t2 : Int × Int) (t3 : Int × Int) (t4 : Int × Int) (t5 : Int × Int) (t6 : Int × Int × Bool) : γ := bif t1
  then k (ref_None.fst, ref_None.snd, true)
  else k (t6.fst, t6.snd.fst, t6.snd.snd)
def ref_Neg.c {γ : Type} (k : Int × Int × Bool → γ) (a0 : Int) (a1 : Int) : γ := let t1 := ref_Empty a0 a1; let t2 := ref_Of a1; let t3 := ref_minus 0 0 t2.fst t2.snd; let t4 := ref_Of a0; let t5 := ref_minus 0 0 t4.fst t4.snd; let t6 := ref_span t3.fst t3.snd t5.fst t5.snd; ref_Neg.c0 k a0 a1 t1 t2 t3 t4 t5 t6
def ref_Neg (a0 : Int) (a1 : Int) : Int × Int × Bool := ref_Neg.c id a0 a1
def ref_Neg.F : FV := mkF (cP (cA (cP (cI .i64) (cP (cI .i64) cU))) cU) (fun _ => true) (fun | ((a0, (a1, ())), ()) => .tuple #[.agg #[.int .i64 (ref_Neg a0 a1).1, .int .i64 (ref_Neg a0 a1).2.1], .bool (ref_Neg a0 a1).2.2])
def L_ref_Neg : TL := (20, ref_Neg.F) :: L_ref_span
theorem ref_Neg.p0 {γ : Type} (k : Int × Int × Bool → γ) (a0 : Int) (a1 : Int) (t1 : Bool) (t2 : Int × Int) (t3 : Int × Int) (t4 : Int × Int) (t5 : Int × Int) (t6 : Int × Int × Bool) : ref_Neg.c0 k a0 a1 t1 t2 t3 t4 t5 t6 = k (ref_Neg.c0 id a0 a1 t1 t2 t3 t4 t5 t6) := by
  unfold ref_Neg.c0; (repeat' (first | (apply pc k) | (exact rfl)))
theorem ref_Neg.p {γ : Type} (k : Int × Int × Bool → γ) (a0 : Int) (a1 : Int) : ref_Neg.c k a0 a1 = k (ref_Neg a0 a1) :=
  let t1 := ref_Empty a0 a1; let t2 := ref_Of a1; let t3 := ref_minus 0 0 t2.fst t2.snd; let t4 := ref_Of a0; let t5 := ref_minus 0 0 t4.fst t4.snd; let t6 := ref_span t3.fst t3.snd t5.fst t5.snd; ref_Neg.p0 k a0 a1 t1 t2 t3 t4 t5 t6
theorem ref_Neg.r (a0 : Int) (a1 : Int) : runF P G (tab L_ref_span) { merge := true } 60 Tryd.f20 [.agg #[.int .i64 a0, .int .i64 a1]] = ref_Neg.c (fun q => some (.tuple #[.agg #[.int .i64 (q).1, .int .i64 (q).2.1], .bool (q).2.2] : Value)) a0 a1 := by kernel_rfl
theorem ref_Neg.t : TabOK P G (tab L_ref_Neg) :=
  TabOK_mk C ref_span.t Tryd.func20 (by kernel_rfl) true 60 (by
    rintro ⟨⟨a0, ⟨a1, ⟨⟩⟩⟩, ⟨⟩⟩ h
    exact (ref_Neg.r a0 a1).trans (ref_Neg.p (fun q => some (.tuple #[.agg #[.int .i64 (q).1, .int .i64 (q).2.1], .bool (q).2.2] : Value)) a0 a1))

def ref_Add.c0 {γ : Type} (k : Int × Int × Bool → γ) (a0 : Int) (a1 : Int) (b0 : Int) (b1 : Int) (t1 : Bool) (t2 : Bool) (t3 : Int × Int) (t4 : Int × Int) (t5 : Int × Int) (t6 : Int × Int) (t7 : Int × Int) (t8 : Int × Int) (t9 : Int × Int × Bool) : γ := bif t1
  then k (ref_None.fst, ref_None.snd, true)
  else bif t2
   then k (ref_None.fst, ref_None.snd, true)
   else k (t9.fst, t9.snd.fst, t9.snd.snd)
def ref_Add.c {γ : Type} (k : Int × Int × Bool → γ) (a0 : Int) (a1 : Int) (b0 : Int) (b1 : Int) : γ := let t1 := ref_Empty a0 a1; let t2 := ref_Empty b0 b1; let t3 := ref_Of a0; let t4 := ref_Of b0; let t5 := ref_plus t3.fst t3.snd t4.fst t4.snd; let t6 := ref_Of a1; let t7 := ref_Of b1; let t8 := ref_plus t6.fst t6.snd t7.fst t7.snd; let t9 := ref_span t5.fst t5.snd t8.fst t8.snd; ref_Add.c0 k a0 a1 b0 b1 t1 t2 t3 t4 t5 t6 t7 t8 t9
def ref_Add (a0 : Int) (a1 : Int) (b0 : Int) (b1 : Int) : Int × Int × Bool := ref_Add.c id a0 a1 b0 b1
def ref_Add.F : FV := mkF (cP (cA (cP (cI .i64) (cP (cI .i64) cU))) (cP (cA (cP (cI .i64) (cP (cI .i64) cU))) cU)) (fun _ => true) (fun | ((a0, (a1, ())), ((b0, (b1, ())), ())) => .tuple #[.agg #[.int .i64 (ref_Add a0 a1 b0 b1).1, .int .i64 (ref_Add a0 a1 b0 b1).2.1], .bool (ref_Add a0 a1 b0 b1).2.2])
def L_ref_Add : TL := (22, ref_Add.F) :: L_ref_Neg
theorem ref_Add.p0 {γ : Type} (k : Int × Int × Bool → γ) (a0 : Int) (a1 : Int) (b0 : Int) (b1 : Int) (t1 : Bool) (t2 : Bool) (t3 : Int × Int) (t4 : Int × Int) (t5 : Int × Int) (t6 : Int × Int) (t7 : Int × Int) (t8 : Int × Int) (t9 : Int × Int × Bool) : ref_Add.c0 k a0 a1 b0 b1 t1 t2 t3 t4 t5 t6 t7 t8 t9 = k (ref_Add.c0 id a0 a1 b0 b1 t1 t2 t3 t4 t5 t6 t7 t8 t9) := by
  unfold ref_Add.c0; (repeat' (first | (apply pc k) | (exact rfl)))
theorem ref_Add.p {γ : Type} (k : Int × Int × Bool → γ) (a0 : Int) (a1 : Int) (b0 : Int) (b1 : Int) : ref_Add.c k a0 a1 b0 b1 = k (ref_Add a0 a1 b0 b1) :=
  let t1 := ref_Empty a0 a1; let t2 := ref_Empty b0 b1; let t3 := ref_Of a0; let t4 := ref_Of b0; let t5 := ref_plus t3.fst t3.snd t4.fst t4.snd; let t6 := ref_Of a1; let t7 := ref_Of b1; let t8 := ref_plus t6.fst t6.snd t7.fst t7.snd; let t9 := ref_span t5.fst t5.snd t8.fst t8.snd; ref_Add.p0 k a0 a1 b0 b1 t1 t2 t3 t4 t5 t6 t7 t8 t9
theorem ref_Add.r (a0 : Int) (a1 : Int) (b0 : Int) (b1 : Int) : runF P G (tab L_ref_Neg) { merge := true } 60 Tryd.f22 [.agg #[.int .i64 a0, .int .i64 a1], .agg #[.int .i64 b0, .int .i64 b1]] = ref_Add.c (fun q => some (.tuple #[.agg #[.int .i64 (q).1, .int .i64 (q).2.1], .bool (q).2.2] : Value)) a0 a1 b0 b1 := by kernel_rfl
theorem ref_Add.t : TabOK P G (tab L_ref_Add) :=
  TabOK_mk C ref_Neg.t Tryd.func22 (by kernel_rfl) true 60 (by
    rintro ⟨⟨a0, ⟨a1, ⟨⟩⟩⟩, ⟨⟨b0, ⟨b1, ⟨⟩⟩⟩, ⟨⟩⟩⟩ h
    exact (ref_Add.r a0 a1 b0 b1).trans (ref_Add.p (fun q => some (.tuple #[.agg #[.int .i64 (q).1, .int .i64 (q).2.1], .bool (q).2.2] : Value)) a0 a1 b0 b1))

def ref_Sub.c0 {γ : Type} (k : Int × Int × Bool → γ) (a0 : Int) (a1 : Int) (b0 : Int) (b1 : Int) (t1 : Bool) (t2 : Bool) (t3 : Int × Int) (t4 : Int × Int) (t5 : Int × Int) (t6 : Int × Int) (t7 : Int × Int) (t8 : Int × Int) (t9 : Int × Int × Bool) : γ := bif t1
  then k (ref_None.fst, ref_None.snd, true)
  else bif t2
   then k (ref_None.fst, ref_None.snd, true)
   else k (t9.fst, t9.snd.fst, t9.snd.snd)
def ref_Sub.c {γ : Type} (k : Int × Int × Bool → γ) (a0 : Int) (a1 : Int) (b0 : Int) (b1 : Int) : γ := let t1 := ref_Empty a0 a1; let t2 := ref_Empty b0 b1; let t3 := ref_Of a0; let t4 := ref_Of b1; let t5 := ref_minus t3.fst t3.snd t4.fst t4.snd; let t6 := ref_Of a1; let t7 := ref_Of b0; let t8 := ref_minus t6.fst t6.snd t7.fst t7.snd; let t9 := ref_span t5.fst t5.snd t8.fst t8.snd; ref_Sub.c0 k a0 a1 b0 b1 t1 t2 t3 t4 t5 t6 t7 t8 t9
def ref_Sub (a0 : Int) (a1 : Int) (b0 : Int) (b1 : Int) : Int × Int × Bool := ref_Sub.c id a0 a1 b0 b1
def ref_Sub.F : FV := mkF (cP (cA (cP (cI .i64) (cP (cI .i64) cU))) (cP (cA (cP (cI .i64) (cP (cI .i64) cU))) cU)) (fun _ => true) (fun | ((a0, (a1, ())), ((b0, (b1, ())), ())) => .tuple #[.agg #[.int .i64 (ref_Sub a0 a1 b0 b1).1, .int .i64 (ref_Sub a0 a1 b0 b1).2.1], .bool (ref_Sub a0 a1 b0 b1).2.2])
def L_ref_Sub : TL := (24, ref_Sub.F) :: L_ref_Add
theorem ref_Sub.p0 {γ : Type} (k : Int × Int × Bool → γ) (a0 : Int) (a1 : Int) (b0 : Int) (b1 : Int) (t1 : Bool) (t2 : Bool) (t3 : Int × Int) (t4 : Int × Int) (t5 : Int × Int) (t6 : Int × Int) (t7 : Int × Int) (t8 : Int × Int) (t9 : Int × Int × Bool) : ref_Sub.c0 k a0 a1 b0 b1 t1 t2 t3 t4 t5 t6 t7 t8 t9 = k (ref_Sub.c0 id a0 a1 b0 b1 t1 t2 t3 t4 t5 t6 t7 t8 t9) := by
  unfold ref_Sub.c0; (repeat' (first | (apply pc k) | (exact rfl)))
theorem ref_Sub.p {γ : Type} (k : Int × Int × Bool → γ) (a0 : Int) (a1 : Int) (b0 : Int) (b1 : Int) : ref_Sub.c k a0 a1 b0 b1 = k (ref_Sub a0 a1 b0 b1) :=
  let t1 := ref_Empty a0 a1; let t2 := ref_Empty b0 b1; let t3 := ref_Of a0; let t4 := ref_Of b1; let t5 := ref_minus t3.fst t3.snd t4.fst t4.snd; let t6 := ref_Of a1; let t7 := ref_Of b0; let t8 := ref_minus t6.fst t6.snd t7.fst t7.snd; let t9 := ref_span t5.fst t5.snd t8.fst t8.snd; ref_Sub.p0 k a0 a1 b0 b1 t1 t2 t3 t4 t5 t6 t7 t8 t9
theorem ref_Sub.r (a0 : Int) (a1 : Int) (b0 : Int) (b1 : Int) : runF P G (tab L_ref_Add) { merge := true } 60 Tryd.f24 [.agg #[.int .i64 a0, .int .i64 a1], .agg #[.int .i64 b0, .int .i64 b1]] = ref_Sub.c (fun q => some (.tuple #[.agg #[.int .i64 (q).1, .int .i64 (q).2.1], .bool (q).2.2] : Value)) a0 a1 b0 b1 := by kernel_rfl
theorem ref_Sub.t : TabOK P G (tab L_ref_Sub) :=
  TabOK_mk C ref_Add.t Tryd.func24 (by kernel_rfl) true 60 (by
    rintro ⟨⟨a0, ⟨a1, ⟨⟩⟩⟩, ⟨⟨b0, ⟨b1, ⟨⟩⟩⟩, ⟨⟩⟩⟩ h
    exact (ref_Sub.r a0 a1 b0 b1).trans (ref_Sub.p (fun q => some (.tuple #[.agg #[.int .i64 (q).1, .int .i64 (q).2.1], .bool (q).2.2] : Value)) a0 a1 b0 b1))

def ref_far.c0 {γ : Type} (k : Int → γ) (a : Int) (t1 : Int) (t2 : Int) : γ := bif decide (a < 0)
  then k (t2)
  else k (t1)
def ref_far.c {γ : Type} (k : Int → γ) (a : Int) : γ := let t1 := IntKind.u64.wrap a; let t2 := IntKind.u64.wrap (0 - t1); ref_far.c0 k a t1 t2
def ref_far (a : Int) : Int := ref_far.c id a
def ref_far.F : FV := mkF (cP (cI .i64) cU) (fun _ => true) (fun | (a, ()) => .int .u64 (ref_far a))
def L_ref_far : TL := (64, ref_far.F) :: L_ref_Sub
theorem ref_far.p0 {γ : Type} (k : Int → γ) (a : Int) (t1 : Int) (t2 : Int) : ref_far.c0 k a t1 t2 = k (ref_far.c0 id a t1 t2) := by
  unfold ref_far.c0; (repeat' (first | (apply pc k) | (exact rfl)))
theorem ref_far.p {γ : Type} (k : Int → γ) (a : Int) : ref_far.c k a = k (ref_far a) :=
  let t1 := IntKind.u64.wrap a; let t2 := IntKind.u64.wrap (0 - t1); ref_far.p0 k a t1 t2
theorem ref_far.r (a : Int) : runF P G (tab L_ref_Sub) { merge := true } 60 Tryd.f64 [.int .i64 a] = ref_far.c (fun q => some (.int .u64 (q) : Value)) a := by kernel_rfl
theorem ref_far.t : TabOK P G (tab L_ref_far) :=
  TabOK_mk C ref_Sub.t Tryd.func64 (by kernel_rfl) true 60 (by
    rintro ⟨a, ⟨⟩⟩ h
    exact (ref_far.r a).trans (ref_far.p (fun q => some (.int .u64 (q) : Value)) a))

end Go.Proofs.YtbbplkdjcgdaaaaDoor.V
