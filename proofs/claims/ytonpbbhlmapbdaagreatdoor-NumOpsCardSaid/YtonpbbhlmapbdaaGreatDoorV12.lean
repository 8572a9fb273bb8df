/- winnowref13.Widen at given thresholds, evaluated. Conditions: none. -/
import Derived.Test.YtonpbbhlmapbdaaGreatDoorVB
set_option linter.unusedVariables false
set_option maxHeartbeats 4000000
set_option maxRecDepth 100000
namespace Go.Proofs.YtonpbbhlmapbdaaGreatDoor.V
open Go Go.Wk
noncomputable section
def nwid2.c0 {γ : Type} (n : γ) (k : Bool × Int × Int × Int × Int → γ) (G0 : Glob) (thr : Value) (zs : List Int) (a0 : Bool) (a1 : Int) (a2 : Int) (a3 : Int) (a4 : Int) (b0 : Bool) (b1 : Int) (b2 : Int) (b3 : Int) (b4 : Int) (t1 : Bool) (t2 : Bool) (t3 : Bool × Int × Int × Int × Int) (t4 : Bool × Int × Int × Int × Int) (t5 : Bool) (t6 : Bool) (t7 : Int × Int) (t8 : Bool) (t9 : Int) (t10 : Int) (t11 : Bool) (t12 : Bool × Int × Int × Int × Int) : γ := bif t1
  then bif t2
   then bif t3.fst
    then k (t4.fst, t4.snd.fst, t4.snd.snd.fst, t4.snd.snd.snd.fst, t4.snd.snd.snd.snd)
    else bif t4.fst
     then k (t3.fst, t3.snd.fst, t3.snd.snd.fst, t3.snd.snd.snd.fst, t3.snd.snd.snd.snd)
     else bif t5
      then bif t6
       then bif t11
        then k (t12.fst, t12.snd.fst, t12.snd.snd.fst, t12.snd.snd.snd.fst, t12.snd.snd.snd.snd)
        else n
       else n
      else n
   else n
  else n
def nwid2.c {γ : Type} (n : γ) (k : Bool × Int × Int × Int × Int → γ) (G0 : Glob) (thr : Value) (zs : List Int) (a0 : Bool) (a1 : Int) (a2 : Int) (a3 : Int) (a4 : Int) (b0 : Bool) (b1 : Int) (b2 : Int) (b3 : Int) (b4 : Int) : γ := let t1 := nref_Norm.ok a0 a1 a2 a3 a4; let t2 := nref_Norm.ok b0 b1 b2 b3 b4; let t3 := nref_Norm a0 a1 a2 a3 a4; let t4 := nref_Norm b0 b1 b2 b3 b4; let t5 := B.ref_Leq.ok t4.snd.snd.snd.fst t4.snd.snd.snd.snd t3.snd.snd.snd.fst t3.snd.snd.snd.snd; let t6 := eqV thr thr; let t7 := widj t3.snd.fst t3.snd.snd.fst t4.snd.fst t4.snd.snd.fst zs; let t8 := B.ref_Leq t4.snd.snd.snd.fst t4.snd.snd.snd.snd t3.snd.snd.snd.fst t3.snd.snd.snd.snd; let t9 := bif t8 then t3.snd.snd.snd.fst else 1; let t10 := bif t8 then t3.snd.snd.snd.snd else 0; let t11 := nref_Make.ok t7.fst t7.snd t9 t10; let t12 := nref_Make t7.fst t7.snd t9 t10; nwid2.c0 n k G0 thr zs a0 a1 a2 a3 a4 b0 b1 b2 b3 b4 t1 t2 t3 t4 t5 t6 t7 t8 t9 t10 t11 t12
theorem nwid2.r (G0 : Glob) (thr : Value) (zs : List Int) (a0 : Bool) (a1 : Int) (a2 : Int) (a3 : Int) (a4 : Int) (b0 : Bool) (b1 : Int) (b2 : Int) (b3 : Int) (b4 : Int) : runF P G0 (tab (L_widj thr zs)) { merge := true, glue := true } 60 Tryz.f43 [.agg #[.bool a0, .int .i64 a1, .int .i64 a2, .int .u64 a3, .int .u64 a4], .agg #[.bool b0, .int .i64 b1, .int .i64 b2, .int .u64 b3, .int .u64 b4], thr] = nwid2.c none (fun q => some (.agg #[.bool (q).1, .int .i64 (q).2.1, .int .i64 (q).2.2.1, .int .u64 (q).2.2.2.1, .int .u64 (q).2.2.2.2] : Value)) G0 thr zs a0 a1 a2 a3 a4 b0 b1 b2 b3 b4 := by kernel_rfl
end
end Go.Proofs.YtonpbbhlmapbdaaGreatDoor.V
