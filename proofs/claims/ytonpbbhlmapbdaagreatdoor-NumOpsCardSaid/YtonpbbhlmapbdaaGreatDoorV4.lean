/- num.Widen at given thresholds, evaluated. Conditions: none. -/
import Derived.Test.YtonpbbhlmapbdaaGreatDoorV3
set_option linter.unusedVariables false
set_option maxHeartbeats 4000000
set_option maxRecDepth 100000
namespace Go.Proofs.YtonpbbhlmapbdaaGreatDoor.V
open Go Go.Wk
noncomputable section
def nwid.c0 {γ : Type} (n : γ) (k : Bool × Int × Int × Int × Int → γ) (G0 : Glob) (thr : Value) (zs : List Int) (a0 : Bool) (a1 : Int) (a2 : Int) (a3 : Int) (a4 : Int) (b0 : Bool) (b1 : Int) (b2 : Int) (b3 : Int) (b4 : Int) (t1 : Bool × Int × Int × Int × Int) (t2 : Bool × Int × Int × Int × Int) (t3 : Bool) (t4 : Bool) (t5 : Int × Int) (t6 : Bool) (t7 : Int) (t8 : Int) (t9 : Bool × Int × Int × Int × Int) : γ := bif t1.fst
  then k (t2.fst, t2.snd.fst, t2.snd.snd.fst, t2.snd.snd.snd.fst, t2.snd.snd.snd.snd)
  else bif t2.fst
   then k (t1.fst, t1.snd.fst, t1.snd.snd.fst, t1.snd.snd.snd.fst, t1.snd.snd.snd.snd)
   else bif t3
    then bif t4
     then k (t9.fst, t9.snd.fst, t9.snd.snd.fst, t9.snd.snd.snd.fst, t9.snd.snd.snd.snd)
     else n
    else n
def nwid.c {γ : Type} (n : γ) (k : Bool × Int × Int × Int × Int → γ) (G0 : Glob) (thr : Value) (zs : List Int) (a0 : Bool) (a1 : Int) (a2 : Int) (a3 : Int) (a4 : Int) (b0 : Bool) (b1 : Int) (b2 : Int) (b3 : Int) (b4 : Int) : γ := let t1 := num_Norm a0 a1 a2 a3 a4; let t2 := num_Norm b0 b1 b2 b3 b4; let t3 := B.cong_Leq.ok t2.snd.snd.snd.fst t2.snd.snd.snd.snd t1.snd.snd.snd.fst t1.snd.snd.snd.snd; let t4 := eqV thr thr; let t5 := wid t1.snd.fst t1.snd.snd.fst t2.snd.fst t2.snd.snd.fst zs; let t6 := B.cong_Leq t2.snd.snd.snd.fst t2.snd.snd.snd.snd t1.snd.snd.snd.fst t1.snd.snd.snd.snd; let t7 := bif !t6 then 1 else t1.snd.snd.snd.fst; let t8 := bif !t6 then 0 else t1.snd.snd.snd.snd; let t9 := num_Make t5.fst t5.snd t7 t8; nwid.c0 n k G0 thr zs a0 a1 a2 a3 a4 b0 b1 b2 b3 b4 t1 t2 t3 t4 t5 t6 t7 t8 t9
theorem nwid.r (G0 : Glob) (thr : Value) (zs : List Int) (a0 : Bool) (a1 : Int) (a2 : Int) (a3 : Int) (a4 : Int) (b0 : Bool) (b1 : Int) (b2 : Int) (b3 : Int) (b4 : Int) : runF P G0 (tab (L_wid thr zs)) { merge := true, glue := true } 60 Tryz.f42 [.agg #[.bool a0, .int .i64 a1, .int .i64 a2, .int .u64 a3, .int .u64 a4], .agg #[.bool b0, .int .i64 b1, .int .i64 b2, .int .u64 b3, .int .u64 b4], thr] = nwid.c none (fun q => some (.agg #[.bool (q).1, .int .i64 (q).2.1, .int .i64 (q).2.2.1, .int .u64 (q).2.2.2.1, .int .u64 (q).2.2.2.2] : Value)) G0 thr zs a0 a1 a2 a3 a4 b0 b1 b2 b3 b4 := by kernel_rfl
end
end Go.Proofs.YtonpbbhlmapbdaaGreatDoor.V
