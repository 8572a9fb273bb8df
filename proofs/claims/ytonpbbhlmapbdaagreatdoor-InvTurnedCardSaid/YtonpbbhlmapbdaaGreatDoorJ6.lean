/- InvTurned, evaluated behind its map. Conditions: none. -/
import Derived.Test.YtonpbbhlmapbdaaGreatDoorJ5
set_option linter.unusedVariables false
set_option maxHeartbeats 4000000
set_option maxRecDepth 100000
namespace Go.Proofs.YtonpbbhlmapbdaaGreatDoor.V
open Go Go.Wk
noncomputable section
def turned.c0 {γ : Type} (n : γ) (k : Bool → γ) (op : Int) (bk : Int) (p0 : Bool) (p1 : Int) (p2 : Int) (p3 : Int) (p4 : Int) (p5 : Bool) (p6 : Int) (p7 : Int) (p8 : Int) (p9 : Int) (p10 : Bool) (p11 : Int) (p12 : Int) (p13 : Int) (p14 : Int) (v : Int) (w : Int) (t1 : Bool) (t2 : Bool) (t3 : Bool × Int × Int × Int × Int × Bool × Int × Int × Int × Int × Int) (t4 : Bool × Int × Int × Int × Int × Bool × Int × Int × Int × Int × Int) (t5 : Bool) (t6 : Bool) (t7 : Bool × Int × Int × Int × Int) (t8 : Bool × Int × Int × Int × Int) (t9 : Bool) (t10 : Bool) (t11 : Bool × Int × Int × Int × Int × Bool × Int × Int × Int × Int × Int) (t12 : Bool) (t13 : Bool) (t14 : Bool) (t15 : Bool) (t16 : Bool) (t17 : Bool) : γ := bif t1
  then bif t2
   then bif t6
    then k (false)
    else bif t3.snd.snd.snd.snd.snd.snd.snd.snd.snd.snd != 0
     then bif law_taken.ok
      then k (law_taken)
      else n
     else bif t9
      then bif t10
       then bif (law_taken.ok || !(t13 && true)) && true
        then k (t14)
        else n
       else bif (law_taken.ok || !(t16 && true)) && true
        then k (t17)
        else n
      else n
   else n
  else n
def turned.c {γ : Type} (n : γ) (k : Bool → γ) (op : Int) (bk : Int) (p0 : Bool) (p1 : Int) (p2 : Int) (p3 : Int) (p4 : Int) (p5 : Bool) (p6 : Int) (p7 : Int) (p8 : Int) (p9 : Int) (p10 : Bool) (p11 : Int) (p12 : Int) (p13 : Int) (p14 : Int) (v : Int) (w : Int) : γ := let t1 := inv_Compare.ok op p0 p1 p2 p3 p4 p5 p6 p7 p8 p9; let t2 := inv_Compare.ok bk p5 p6 p7 p8 p9 p0 p1 p2 p3 p4; let t3 := inv_Compare op p0 p1 p2 p3 p4 p5 p6 p7 p8 p9; let t4 := inv_Compare bk p5 p6 p7 p8 p9 p0 p1 p2 p3 p4; let t5 := bif t3.snd.snd.snd.snd.snd.snd.snd.snd.snd.snd != t4.snd.snd.snd.snd.snd.snd.snd.snd.snd.snd then true else !(t3.fst == t4.snd.snd.snd.snd.snd.fst && (t3.snd.fst == t4.snd.snd.snd.snd.snd.snd.fst && (t3.snd.snd.fst == t4.snd.snd.snd.snd.snd.snd.snd.fst && true) && (t3.snd.snd.snd.fst == t4.snd.snd.snd.snd.snd.snd.snd.snd.fst && (t3.snd.snd.snd.snd.fst == t4.snd.snd.snd.snd.snd.snd.snd.snd.snd.fst && true) && true))); let t6 := bif t5 then true else !(t3.snd.snd.snd.snd.snd.fst == t4.fst && (t3.snd.snd.snd.snd.snd.snd.fst == t4.snd.fst && (t3.snd.snd.snd.snd.snd.snd.snd.fst == t4.snd.snd.fst && true) && (t3.snd.snd.snd.snd.snd.snd.snd.snd.fst == t4.snd.snd.snd.fst && (t3.snd.snd.snd.snd.snd.snd.snd.snd.snd.fst == t4.snd.snd.snd.snd.fst && true) && true))); let t7 := nref_Const v; let t8 := nref_Const w; let t9 := inv_Compare.ok op t7.fst t7.snd.fst t7.snd.snd.fst t7.snd.snd.snd.fst t7.snd.snd.snd.snd t8.fst t8.snd.fst t8.snd.snd.fst t8.snd.snd.snd.fst t8.snd.snd.snd.snd; let t10 := law_holds op v w; let t11 := inv_Compare op t7.fst t7.snd.fst t7.snd.snd.fst t7.snd.snd.snd.fst t7.snd.snd.snd.snd t8.fst t8.snd.fst t8.snd.snd.fst t8.snd.snd.snd.fst t8.snd.snd.snd.snd; let t12 := bif t11.snd.snd.snd.snd.snd.snd.snd.snd.snd.snd == 0 then t11.fst == t7.fst && (t11.snd.fst == t7.snd.fst && (t11.snd.snd.fst == t7.snd.snd.fst && true) && (t11.snd.snd.snd.fst == t7.snd.snd.snd.fst && (t11.snd.snd.snd.snd.fst == t7.snd.snd.snd.snd && true) && true)) else false; let t13 := bif t12 then t11.snd.snd.snd.snd.snd.fst == t8.fst && (t11.snd.snd.snd.snd.snd.snd.fst == t8.snd.fst && (t11.snd.snd.snd.snd.snd.snd.snd.fst == t8.snd.snd.fst && true) && (t11.snd.snd.snd.snd.snd.snd.snd.snd.fst == t8.snd.snd.snd.fst && (t11.snd.snd.snd.snd.snd.snd.snd.snd.snd.fst == t8.snd.snd.snd.snd && true) && true)) else false; let t14 := bif t13 then law_taken else false; let t15 := bif t11.snd.snd.snd.snd.snd.snd.snd.snd.snd.snd == 0 then t11.fst == nref_Bot.fst && (t11.snd.fst == nref_Bot.snd.fst && (t11.snd.snd.fst == nref_Bot.snd.snd.fst && true) && (t11.snd.snd.snd.fst == nref_Bot.snd.snd.snd.fst && (t11.snd.snd.snd.snd.fst == nref_Bot.snd.snd.snd.snd && true) && true)) else false; let t16 := bif t15 then t11.snd.snd.snd.snd.snd.fst == nref_Bot.fst && (t11.snd.snd.snd.snd.snd.snd.fst == nref_Bot.snd.fst && (t11.snd.snd.snd.snd.snd.snd.snd.fst == nref_Bot.snd.snd.fst && true) && (t11.snd.snd.snd.snd.snd.snd.snd.snd.fst == nref_Bot.snd.snd.snd.fst && (t11.snd.snd.snd.snd.snd.snd.snd.snd.snd.fst == nref_Bot.snd.snd.snd.snd && true) && true)) else false; let t17 := bif t16 then law_taken else false; turned.c0 n k op bk p0 p1 p2 p3 p4 p5 p6 p7 p8 p9 p10 p11 p12 p13 p14 v w t1 t2 t3 t4 t5 t6 t7 t8 t9 t10 t11 t12 t13 t14 t15 t16 t17
theorem turned.r (op : Int) (bk : Int) (p0 : Bool) (p1 : Int) (p2 : Int) (p3 : Int) (p4 : Int) (p5 : Bool) (p6 : Int) (p7 : Int) (p8 : Int) (p9 : Int) (p10 : Bool) (p11 : Int) (p12 : Int) (p13 : Int) (p14 : Int) (v : Int) (w : Int) : ex P G (tab L_law_holds) { merge := true, glue := true } 60 restT (stT op bk (kT p0 p1 p2 p3 p4 p5 p6 p7 p8 p9 p10 p11 p12 p13 p14 v w)) (retK P G Tryz.f12) = turned.c none (fun q => some (.bool (q) : Value)) op bk p0 p1 p2 p3 p4 p5 p6 p7 p8 p9 p10 p11 p12 p13 p14 v w := by kernel_rfl

end
end Go.Proofs.YtonpbbhlmapbdaaGreatDoor.V
