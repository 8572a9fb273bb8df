/- What the functions of this seat compute, told by evaluation of their code. Conditions: none. -/
import Derived.Test.YtonpbbhlmapbdaaGreatDoorE6
set_option linter.unusedVariables false
set_option linter.unusedSimpArgs false
namespace Go.Proofs.YtonpbbhlmapbdaaGreatDoor.V
open Go Go.Wk
noncomputable section
def num_Bot.c {γ : Type} (k : Bool × Int × Int × Int × Int → γ)  : γ := k (true, 0, 0, 0, 0)
def num_Bot  : Bool × Int × Int × Int × Int := num_Bot.c id
def num_Bot.F : FV := mkF cU (fun _ => true) (fun | () => .agg #[.bool (num_Bot).1, .int .i64 (num_Bot).2.1, .int .i64 (num_Bot).2.2.1, .int .u64 (num_Bot).2.2.2.1, .int .u64 (num_Bot).2.2.2.2])
def L_num_Bot : TL := (23, num_Bot.F) :: L_B.ref_Rem
theorem num_Bot.p {γ : Type} (k : Bool × Int × Int × Int × Int → γ)  : num_Bot.c k  = k (num_Bot) := by
  unfold num_Bot num_Bot.c; (repeat' (first | (apply pc k) | (exact rfl)))
theorem num_Bot.r  : runF P G (tab L_B.ref_Rem) { merge := true, glue := true } 60 Tryz.f23 [] = num_Bot.c (fun q => some (.agg #[.bool (q).1, .int .i64 (q).2.1, .int .i64 (q).2.2.1, .int .u64 (q).2.2.2.1, .int .u64 (q).2.2.2.2] : Value))  := by kernel_rfl
theorem num_Bot.t : TabOK P G (tab L_num_Bot) :=
  TabOK_mkL C B.ref_Rem.t Tryz.func23 (by kernel_rfl) { merge := true, glue := true } (fun c _ => LoopsOK_nil c) 60 (by
    rintro ⟨⟩ h
    exact (num_Bot.r ).trans (num_Bot.p (fun q => some (.agg #[.bool (q).1, .int .i64 (q).2.1, .int .i64 (q).2.2.1, .int .u64 (q).2.2.2.1, .int .u64 (q).2.2.2.2] : Value)) ))
def num_Make.c0 {γ : Type} (k : Bool × Int × Int × Int × Int → γ) (a0 : Int) (a1 : Int) (b0 : Int) (b1 : Int) (t1 : Int × Int) (t2 : Int × Bool) (t3 : Bool) (t4 : Int × Bool) (t5 : Bool) (t6 : Bool) (t7 : Int × Int) (t8 : Int) (t9 : Int) : γ := bif t6
  then k (num_Bot.fst, num_Bot.snd.fst, num_Bot.snd.snd.fst, num_Bot.snd.snd.snd.fst, num_Bot.snd.snd.snd.snd)
  else k (false, t2.fst, t4.fst, t8, t9)
def num_Make.c {γ : Type} (k : Bool × Int × Int × Int × Int → γ) (a0 : Int) (a1 : Int) (b0 : Int) (b1 : Int) : γ := let t1 := B.cong_Norm b0 b1; let t2 := B.cong_Up t1.fst t1.snd a0; let t3 := bif decide (a0 > a1) then true else !t2.snd; let t4 := B.cong_Down t1.fst t1.snd a1; let t5 := bif t3 then true else !t4.snd; let t6 := bif t5 then true else decide (t2.fst > t4.fst); let t7 := B.cong_Const t2.fst; let t8 := bif t2.fst == t4.fst then t7.fst else t1.fst; let t9 := bif t2.fst == t4.fst then t7.snd else t1.snd; num_Make.c0 k a0 a1 b0 b1 t1 t2 t3 t4 t5 t6 t7 t8 t9
def num_Make (a0 : Int) (a1 : Int) (b0 : Int) (b1 : Int) : Bool × Int × Int × Int × Int := num_Make.c id a0 a1 b0 b1
def num_Make.F : FV := mkF (cP (cA (cP (cI .i64) (cP (cI .i64) cU))) (cP (cA (cP (cI .u64) (cP (cI .u64) cU))) cU)) (fun _ => true) (fun | ((a0, (a1, ())), ((b0, (b1, ())), ())) => .agg #[.bool (num_Make a0 a1 b0 b1).1, .int .i64 (num_Make a0 a1 b0 b1).2.1, .int .i64 (num_Make a0 a1 b0 b1).2.2.1, .int .u64 (num_Make a0 a1 b0 b1).2.2.2.1, .int .u64 (num_Make a0 a1 b0 b1).2.2.2.2])
def L_num_Make : TL := (25, num_Make.F) :: L_num_Bot
theorem num_Make.p0 {γ : Type} (k : Bool × Int × Int × Int × Int → γ) (a0 : Int) (a1 : Int) (b0 : Int) (b1 : Int) (t1 : Int × Int) (t2 : Int × Bool) (t3 : Bool) (t4 : Int × Bool) (t5 : Bool) (t6 : Bool) (t7 : Int × Int) (t8 : Int) (t9 : Int) : num_Make.c0 k a0 a1 b0 b1 t1 t2 t3 t4 t5 t6 t7 t8 t9 = k (num_Make.c0 id a0 a1 b0 b1 t1 t2 t3 t4 t5 t6 t7 t8 t9) := by
  unfold num_Make.c0; (repeat' (first | (apply pc k) | (exact rfl)))
theorem num_Make.p {γ : Type} (k : Bool × Int × Int × Int × Int → γ) (a0 : Int) (a1 : Int) (b0 : Int) (b1 : Int) : num_Make.c k a0 a1 b0 b1 = k (num_Make a0 a1 b0 b1) :=
  let t1 := B.cong_Norm b0 b1; let t2 := B.cong_Up t1.fst t1.snd a0; let t3 := bif decide (a0 > a1) then true else !t2.snd; let t4 := B.cong_Down t1.fst t1.snd a1; let t5 := bif t3 then true else !t4.snd; let t6 := bif t5 then true else decide (t2.fst > t4.fst); let t7 := B.cong_Const t2.fst; let t8 := bif t2.fst == t4.fst then t7.fst else t1.fst; let t9 := bif t2.fst == t4.fst then t7.snd else t1.snd; num_Make.p0 k a0 a1 b0 b1 t1 t2 t3 t4 t5 t6 t7 t8 t9
theorem num_Make.r (a0 : Int) (a1 : Int) (b0 : Int) (b1 : Int) : runF P G (tab L_num_Bot) { merge := true, glue := true } 60 Tryz.f25 [.agg #[.int .i64 a0, .int .i64 a1], .agg #[.int .u64 b0, .int .u64 b1]] = num_Make.c (fun q => some (.agg #[.bool (q).1, .int .i64 (q).2.1, .int .i64 (q).2.2.1, .int .u64 (q).2.2.2.1, .int .u64 (q).2.2.2.2] : Value)) a0 a1 b0 b1 := by kernel_rfl
theorem num_Make.t : TabOK P G (tab L_num_Make) :=
  TabOK_mkL C num_Bot.t Tryz.func25 (by kernel_rfl) { merge := true, glue := true } (fun c _ => LoopsOK_nil c) 60 (by
    rintro ⟨⟨a0, ⟨a1, ⟨⟩⟩⟩, ⟨⟨b0, ⟨b1, ⟨⟩⟩⟩, ⟨⟩⟩⟩ h
    exact (num_Make.r a0 a1 b0 b1).trans (num_Make.p (fun q => some (.agg #[.bool (q).1, .int .i64 (q).2.1, .int .i64 (q).2.2.1, .int .u64 (q).2.2.2.1, .int .u64 (q).2.2.2.2] : Value)) a0 a1 b0 b1))
def num_Range.c0 {γ : Type} (k : Bool × Int × Int × Int × Int → γ) (a : Int) (b : Int) (t1 : Bool × Int × Int × Int × Int) : γ := k (t1.fst, t1.snd.fst, t1.snd.snd.fst, t1.snd.snd.snd.fst, t1.snd.snd.snd.snd)
def num_Range.c {γ : Type} (k : Bool × Int × Int × Int × Int → γ) (a : Int) (b : Int) : γ := let t1 := num_Make a b 1 0; num_Range.c0 k a b t1
def num_Range (a : Int) (b : Int) : Bool × Int × Int × Int × Int := num_Range.c id a b
def num_Range.F : FV := mkF (cP (cI .i64) (cP (cI .i64) cU)) (fun _ => true) (fun | (a, (b, ())) => .agg #[.bool (num_Range a b).1, .int .i64 (num_Range a b).2.1, .int .i64 (num_Range a b).2.2.1, .int .u64 (num_Range a b).2.2.2.1, .int .u64 (num_Range a b).2.2.2.2])
def L_num_Range : TL := (29, num_Range.F) :: L_num_Make
theorem num_Range.p0 {γ : Type} (k : Bool × Int × Int × Int × Int → γ) (a : Int) (b : Int) (t1 : Bool × Int × Int × Int × Int) : num_Range.c0 k a b t1 = k (num_Range.c0 id a b t1) := by
  unfold num_Range.c0; (repeat' (first | (apply pc k) | (exact rfl)))
theorem num_Range.p {γ : Type} (k : Bool × Int × Int × Int × Int → γ) (a : Int) (b : Int) : num_Range.c k a b = k (num_Range a b) :=
  let t1 := num_Make a b 1 0; num_Range.p0 k a b t1
theorem num_Range.r (a : Int) (b : Int) : runF P G (tab L_num_Make) { merge := true, glue := true } 60 Tryz.f29 [.int .i64 a, .int .i64 b] = num_Range.c (fun q => some (.agg #[.bool (q).1, .int .i64 (q).2.1, .int .i64 (q).2.2.1, .int .u64 (q).2.2.2.1, .int .u64 (q).2.2.2.2] : Value)) a b := by kernel_rfl
theorem num_Range.t : TabOK P G (tab L_num_Range) :=
  TabOK_mkL C num_Make.t Tryz.func29 (by kernel_rfl) { merge := true, glue := true } (fun c _ => LoopsOK_nil c) 60 (by
    rintro ⟨a, ⟨b, ⟨⟩⟩⟩ h
    exact (num_Range.r a b).trans (num_Range.p (fun q => some (.agg #[.bool (q).1, .int .i64 (q).2.1, .int .i64 (q).2.2.1, .int .u64 (q).2.2.2.1, .int .u64 (q).2.2.2.2] : Value)) a b))
def num_Const.c0 {γ : Type} (k : Bool × Int × Int × Int × Int → γ) (a : Int) (t1 : Bool × Int × Int × Int × Int) : γ := k (t1.fst, t1.snd.fst, t1.snd.snd.fst, t1.snd.snd.snd.fst, t1.snd.snd.snd.snd)
def num_Const.c {γ : Type} (k : Bool × Int × Int × Int × Int → γ) (a : Int) : γ := let t1 := num_Range a a; num_Const.c0 k a t1
def num_Const (a : Int) : Bool × Int × Int × Int × Int := num_Const.c id a
def num_Const.F : FV := mkF (cP (cI .i64) cU) (fun _ => true) (fun | (a, ()) => .agg #[.bool (num_Const a).1, .int .i64 (num_Const a).2.1, .int .i64 (num_Const a).2.2.1, .int .u64 (num_Const a).2.2.2.1, .int .u64 (num_Const a).2.2.2.2])
def L_num_Const : TL := (20, num_Const.F) :: L_num_Range
theorem num_Const.p0 {γ : Type} (k : Bool × Int × Int × Int × Int → γ) (a : Int) (t1 : Bool × Int × Int × Int × Int) : num_Const.c0 k a t1 = k (num_Const.c0 id a t1) := by
  unfold num_Const.c0; (repeat' (first | (apply pc k) | (exact rfl)))
theorem num_Const.p {γ : Type} (k : Bool × Int × Int × Int × Int → γ) (a : Int) : num_Const.c k a = k (num_Const a) :=
  let t1 := num_Range a a; num_Const.p0 k a t1
theorem num_Const.r (a : Int) : runF P G (tab L_num_Range) { merge := true, glue := true } 60 Tryz.f20 [.int .i64 a] = num_Const.c (fun q => some (.agg #[.bool (q).1, .int .i64 (q).2.1, .int .i64 (q).2.2.1, .int .u64 (q).2.2.2.1, .int .u64 (q).2.2.2.2] : Value)) a := by kernel_rfl
theorem num_Const.t : TabOK P G (tab L_num_Const) :=
  TabOK_mkL C num_Range.t Tryz.func20 (by kernel_rfl) { merge := true, glue := true } (fun c _ => LoopsOK_nil c) 60 (by
    rintro ⟨a, ⟨⟩⟩ h
    exact (num_Const.r a).trans (num_Const.p (fun q => some (.agg #[.bool (q).1, .int .i64 (q).2.1, .int .i64 (q).2.2.1, .int .u64 (q).2.2.2.1, .int .u64 (q).2.2.2.2] : Value)) a))
def num_Norm.c0 {γ : Type} (k : Bool × Int × Int × Int × Int → γ) (a0 : Bool) (a1 : Int) (a2 : Int) (a3 : Int) (a4 : Int) (t1 : Bool × Int × Int × Int × Int) : γ := bif a0
  then k (num_Bot.fst, num_Bot.snd.fst, num_Bot.snd.snd.fst, num_Bot.snd.snd.snd.fst, num_Bot.snd.snd.snd.snd)
  else k (t1.fst, t1.snd.fst, t1.snd.snd.fst, t1.snd.snd.snd.fst, t1.snd.snd.snd.snd)
def num_Norm.c {γ : Type} (k : Bool × Int × Int × Int × Int → γ) (a0 : Bool) (a1 : Int) (a2 : Int) (a3 : Int) (a4 : Int) : γ := let t1 := num_Make a1 a2 a3 a4; num_Norm.c0 k a0 a1 a2 a3 a4 t1
def num_Norm (a0 : Bool) (a1 : Int) (a2 : Int) (a3 : Int) (a4 : Int) : Bool × Int × Int × Int × Int := num_Norm.c id a0 a1 a2 a3 a4
def num_Norm.F : FV := mkF (cP (cA (cP cB (cP (cI .i64) (cP (cI .i64) (cP (cI .u64) (cP (cI .u64) cU)))))) cU) (fun _ => true) (fun | ((a0, (a1, (a2, (a3, (a4, ()))))), ()) => .agg #[.bool (num_Norm a0 a1 a2 a3 a4).1, .int .i64 (num_Norm a0 a1 a2 a3 a4).2.1, .int .i64 (num_Norm a0 a1 a2 a3 a4).2.2.1, .int .u64 (num_Norm a0 a1 a2 a3 a4).2.2.2.1, .int .u64 (num_Norm a0 a1 a2 a3 a4).2.2.2.2])
def L_num_Norm : TL := (14, num_Norm.F) :: L_num_Const
theorem num_Norm.p0 {γ : Type} (k : Bool × Int × Int × Int × Int → γ) (a0 : Bool) (a1 : Int) (a2 : Int) (a3 : Int) (a4 : Int) (t1 : Bool × Int × Int × Int × Int) : num_Norm.c0 k a0 a1 a2 a3 a4 t1 = k (num_Norm.c0 id a0 a1 a2 a3 a4 t1) := by
  unfold num_Norm.c0; (repeat' (first | (apply pc k) | (exact rfl)))
theorem num_Norm.p {γ : Type} (k : Bool × Int × Int × Int × Int → γ) (a0 : Bool) (a1 : Int) (a2 : Int) (a3 : Int) (a4 : Int) : num_Norm.c k a0 a1 a2 a3 a4 = k (num_Norm a0 a1 a2 a3 a4) :=
  let t1 := num_Make a1 a2 a3 a4; num_Norm.p0 k a0 a1 a2 a3 a4 t1
theorem num_Norm.r (a0 : Bool) (a1 : Int) (a2 : Int) (a3 : Int) (a4 : Int) : runF P G (tab L_num_Const) { merge := true, glue := true } 60 Tryz.f14 [.agg #[.bool a0, .int .i64 a1, .int .i64 a2, .int .u64 a3, .int .u64 a4]] = num_Norm.c (fun q => some (.agg #[.bool (q).1, .int .i64 (q).2.1, .int .i64 (q).2.2.1, .int .u64 (q).2.2.2.1, .int .u64 (q).2.2.2.2] : Value)) a0 a1 a2 a3 a4 := by kernel_rfl
theorem num_Norm.t : TabOK P G (tab L_num_Norm) :=
  TabOK_mkL C num_Const.t Tryz.func14 (by kernel_rfl) { merge := true, glue := true } (fun c _ => LoopsOK_nil c) 60 (by
    rintro ⟨⟨a0, ⟨a1, ⟨a2, ⟨a3, ⟨a4, ⟨⟩⟩⟩⟩⟩⟩, ⟨⟩⟩ h
    exact (num_Norm.r a0 a1 a2 a3 a4).trans (num_Norm.p (fun q => some (.agg #[.bool (q).1, .int .i64 (q).2.1, .int .i64 (q).2.2.1, .int .u64 (q).2.2.2.1, .int .u64 (q).2.2.2.2] : Value)) a0 a1 a2 a3 a4))
def num_Has.c0 {γ : Type} (k : Bool → γ) (a0 : Bool) (a1 : Int) (a2 : Int) (a3 : Int) (a4 : Int) (b : Int) (t1 : Bool) (t2 : Bool) (t3 : Bool) (t4 : Bool) : γ := k (t4)
def num_Has.c {γ : Type} (k : Bool → γ) (a0 : Bool) (a1 : Int) (a2 : Int) (a3 : Int) (a4 : Int) (b : Int) : γ := let t1 := A.ival_Has a1 a2 b; let t2 := bif !a0 then t1 else false; let t3 := B.cong_Has a3 a4 b; let t4 := bif t2 then t3 else false; num_Has.c0 k a0 a1 a2 a3 a4 b t1 t2 t3 t4
def num_Has (a0 : Bool) (a1 : Int) (a2 : Int) (a3 : Int) (a4 : Int) (b : Int) : Bool := num_Has.c id a0 a1 a2 a3 a4 b
def num_Has.F : FV := mkF (cP (cA (cP cB (cP (cI .i64) (cP (cI .i64) (cP (cI .u64) (cP (cI .u64) cU)))))) (cP (cI .i64) cU)) (fun _ => true) (fun | ((a0, (a1, (a2, (a3, (a4, ()))))), (b, ())) => .bool (num_Has a0 a1 a2 a3 a4 b))
def L_num_Has : TL := (31, num_Has.F) :: L_num_Norm
theorem num_Has.p0 {γ : Type} (k : Bool → γ) (a0 : Bool) (a1 : Int) (a2 : Int) (a3 : Int) (a4 : Int) (b : Int) (t1 : Bool) (t2 : Bool) (t3 : Bool) (t4 : Bool) : num_Has.c0 k a0 a1 a2 a3 a4 b t1 t2 t3 t4 = k (num_Has.c0 id a0 a1 a2 a3 a4 b t1 t2 t3 t4) := by
  unfold num_Has.c0; (repeat' (first | (apply pc k) | (exact rfl)))
theorem num_Has.p {γ : Type} (k : Bool → γ) (a0 : Bool) (a1 : Int) (a2 : Int) (a3 : Int) (a4 : Int) (b : Int) : num_Has.c k a0 a1 a2 a3 a4 b = k (num_Has a0 a1 a2 a3 a4 b) :=
  let t1 := A.ival_Has a1 a2 b; let t2 := bif !a0 then t1 else false; let t3 := B.cong_Has a3 a4 b; let t4 := bif t2 then t3 else false; num_Has.p0 k a0 a1 a2 a3 a4 b t1 t2 t3 t4
theorem num_Has.r (a0 : Bool) (a1 : Int) (a2 : Int) (a3 : Int) (a4 : Int) (b : Int) : runF P G (tab L_num_Norm) { merge := true, glue := true } 60 Tryz.f31 [.agg #[.bool a0, .int .i64 a1, .int .i64 a2, .int .u64 a3, .int .u64 a4], .int .i64 b] = num_Has.c (fun q => some (.bool (q) : Value)) a0 a1 a2 a3 a4 b := by kernel_rfl
theorem num_Has.t : TabOK P G (tab L_num_Has) :=
  TabOK_mkL C num_Norm.t Tryz.func31 (by kernel_rfl) { merge := true, glue := true } (fun c _ => LoopsOK_nil c) 60 (by
    rintro ⟨⟨a0, ⟨a1, ⟨a2, ⟨a3, ⟨a4, ⟨⟩⟩⟩⟩⟩⟩, ⟨b, ⟨⟩⟩⟩ h
    exact (num_Has.r a0 a1 a2 a3 a4 b).trans (num_Has.p (fun q => some (.bool (q) : Value)) a0 a1 a2 a3 a4 b))
def num_Leq.c0 {γ : Type} (n : γ) (k : Bool → γ) (a0 : Bool) (a1 : Int) (a2 : Int) (a3 : Int) (a4 : Int) (b0 : Bool) (b1 : Int) (b2 : Int) (b3 : Int) (b4 : Int) (t1 : Bool × Int × Int × Int × Int) (t2 : Bool × Int × Int × Int × Int) (t3 : Bool) (t4 : Bool) (t5 : Bool) (t6 : Bool) (t7 : Bool) (t8 : Bool) : γ := bif (t3 || !(t5 && (!t1.fst && true))) && true
  then k (t8)
  else n
def num_Leq.c {γ : Type} (n : γ) (k : Bool → γ) (a0 : Bool) (a1 : Int) (a2 : Int) (a3 : Int) (a4 : Int) (b0 : Bool) (b1 : Int) (b2 : Int) (b3 : Int) (b4 : Int) : γ := let t1 := num_Norm a0 a1 a2 a3 a4; let t2 := num_Norm b0 b1 b2 b3 b4; let t3 := B.cong_Leq.ok t1.snd.snd.snd.fst t1.snd.snd.snd.snd t2.snd.snd.snd.fst t2.snd.snd.snd.snd; let t4 := A.ival_Leq t1.snd.fst t1.snd.snd.fst t2.snd.fst t2.snd.snd.fst; let t5 := bif !t2.fst then t4 else false; let t6 := B.cong_Leq t1.snd.snd.snd.fst t1.snd.snd.snd.snd t2.snd.snd.snd.fst t2.snd.snd.snd.snd; let t7 := bif t5 then t6 else false; let t8 := bif t1.fst then true else t7; num_Leq.c0 n k a0 a1 a2 a3 a4 b0 b1 b2 b3 b4 t1 t2 t3 t4 t5 t6 t7 t8
def num_Leq.ok (a0 : Bool) (a1 : Int) (a2 : Int) (a3 : Int) (a4 : Int) (b0 : Bool) (b1 : Int) (b2 : Int) (b3 : Int) (b4 : Int) : Bool := num_Leq.c false (fun _ => true) a0 a1 a2 a3 a4 b0 b1 b2 b3 b4
def num_Leq (a0 : Bool) (a1 : Int) (a2 : Int) (a3 : Int) (a4 : Int) (b0 : Bool) (b1 : Int) (b2 : Int) (b3 : Int) (b4 : Int) : Bool := num_Leq.c (false) id a0 a1 a2 a3 a4 b0 b1 b2 b3 b4
def num_Leq.F : FV := mkF (cP (cA (cP cB (cP (cI .i64) (cP (cI .i64) (cP (cI .u64) (cP (cI .u64) cU)))))) (cP (cA (cP cB (cP (cI .i64) (cP (cI .i64) (cP (cI .u64) (cP (cI .u64) cU)))))) cU)) (fun | ((a0, (a1, (a2, (a3, (a4, ()))))), ((b0, (b1, (b2, (b3, (b4, ()))))), ())) => num_Leq.ok a0 a1 a2 a3 a4 b0 b1 b2 b3 b4) (fun | ((a0, (a1, (a2, (a3, (a4, ()))))), ((b0, (b1, (b2, (b3, (b4, ()))))), ())) => .bool (num_Leq a0 a1 a2 a3 a4 b0 b1 b2 b3 b4))
def L_num_Leq : TL := (33, num_Leq.F) :: L_num_Has
theorem num_Leq.p0 {γ : Type} (k : Bool → γ) (a0 : Bool) (a1 : Int) (a2 : Int) (a3 : Int) (a4 : Int) (b0 : Bool) (b1 : Int) (b2 : Int) (b3 : Int) (b4 : Int) (t1 : Bool × Int × Int × Int × Int) (t2 : Bool × Int × Int × Int × Int) (t3 : Bool) (t4 : Bool) (t5 : Bool) (t6 : Bool) (t7 : Bool) (t8 : Bool) : num_Leq.c0 false (fun _ => true) a0 a1 a2 a3 a4 b0 b1 b2 b3 b4 t1 t2 t3 t4 t5 t6 t7 t8 = true → num_Leq.c0 none (fun q => some (k q)) a0 a1 a2 a3 a4 b0 b1 b2 b3 b4 t1 t2 t3 t4 t5 t6 t7 t8 = some (k (num_Leq.c0 (false) id a0 a1 a2 a3 a4 b0 b1 b2 b3 b4 t1 t2 t3 t4 t5 t6 t7 t8)) := by
  unfold num_Leq.c0; (repeat' (first | (apply pn k) | (exact pn_none _ _) | (exact pn_leaf k _)))
theorem num_Leq.p {γ : Type} (k : Bool → γ) (a0 : Bool) (a1 : Int) (a2 : Int) (a3 : Int) (a4 : Int) (b0 : Bool) (b1 : Int) (b2 : Int) (b3 : Int) (b4 : Int) (h : num_Leq.ok a0 a1 a2 a3 a4 b0 b1 b2 b3 b4 = true) : num_Leq.c none (fun q => some (k q)) a0 a1 a2 a3 a4 b0 b1 b2 b3 b4 = some (k (num_Leq a0 a1 a2 a3 a4 b0 b1 b2 b3 b4)) :=
  let t1 := num_Norm a0 a1 a2 a3 a4; let t2 := num_Norm b0 b1 b2 b3 b4; let t3 := B.cong_Leq.ok t1.snd.snd.snd.fst t1.snd.snd.snd.snd t2.snd.snd.snd.fst t2.snd.snd.snd.snd; let t4 := A.ival_Leq t1.snd.fst t1.snd.snd.fst t2.snd.fst t2.snd.snd.fst; let t5 := bif !t2.fst then t4 else false; let t6 := B.cong_Leq t1.snd.snd.snd.fst t1.snd.snd.snd.snd t2.snd.snd.snd.fst t2.snd.snd.snd.snd; let t7 := bif t5 then t6 else false; let t8 := bif t1.fst then true else t7; num_Leq.p0 k a0 a1 a2 a3 a4 b0 b1 b2 b3 b4 t1 t2 t3 t4 t5 t6 t7 t8 h
theorem num_Leq.r (a0 : Bool) (a1 : Int) (a2 : Int) (a3 : Int) (a4 : Int) (b0 : Bool) (b1 : Int) (b2 : Int) (b3 : Int) (b4 : Int) : runF P G (tab L_num_Has) { merge := true, glue := true } 60 Tryz.f33 [.agg #[.bool a0, .int .i64 a1, .int .i64 a2, .int .u64 a3, .int .u64 a4], .agg #[.bool b0, .int .i64 b1, .int .i64 b2, .int .u64 b3, .int .u64 b4]] = num_Leq.c none (fun q => some (.bool (q) : Value)) a0 a1 a2 a3 a4 b0 b1 b2 b3 b4 := by kernel_rfl
theorem num_Leq.t : TabOK P G (tab L_num_Leq) :=
  TabOK_mkL C num_Has.t Tryz.func33 (by kernel_rfl) { merge := true, glue := true } (fun c _ => LoopsOK_nil c) 60 (by
    rintro ⟨⟨a0, ⟨a1, ⟨a2, ⟨a3, ⟨a4, ⟨⟩⟩⟩⟩⟩⟩, ⟨⟨b0, ⟨b1, ⟨b2, ⟨b3, ⟨b4, ⟨⟩⟩⟩⟩⟩⟩, ⟨⟩⟩⟩ h
    exact (num_Leq.r a0 a1 a2 a3 a4 b0 b1 b2 b3 b4).trans (num_Leq.p (fun q => (.bool (q) : Value)) a0 a1 a2 a3 a4 b0 b1 b2 b3 b4 h))
def num_Join.c0 {γ : Type} (n : γ) (k : Bool × Int × Int × Int × Int → γ) (a0 : Bool) (a1 : Int) (a2 : Int) (a3 : Int) (a4 : Int) (b0 : Bool) (b1 : Int) (b2 : Int) (b3 : Int) (b4 : Int) (t1 : Bool × Int × Int × Int × Int) (t2 : Bool × Int × Int × Int × Int) (t3 : Bool) (t4 : Int × Int) (t5 : Int × Int) (t6 : Bool × Int × Int × Int × Int) : γ := bif t1.fst
  then k (t2.fst, t2.snd.fst, t2.snd.snd.fst, t2.snd.snd.snd.fst, t2.snd.snd.snd.snd)
  else bif t2.fst
   then k (t1.fst, t1.snd.fst, t1.snd.snd.fst, t1.snd.snd.snd.fst, t1.snd.snd.snd.snd)
   else bif t3
    then k (t6.fst, t6.snd.fst, t6.snd.snd.fst, t6.snd.snd.snd.fst, t6.snd.snd.snd.snd)
    else n
def num_Join.c {γ : Type} (n : γ) (k : Bool × Int × Int × Int × Int → γ) (a0 : Bool) (a1 : Int) (a2 : Int) (a3 : Int) (a4 : Int) (b0 : Bool) (b1 : Int) (b2 : Int) (b3 : Int) (b4 : Int) : γ := let t1 := num_Norm a0 a1 a2 a3 a4; let t2 := num_Norm b0 b1 b2 b3 b4; let t3 := B.cong_Join.ok t1.snd.snd.snd.fst t1.snd.snd.snd.snd t2.snd.snd.snd.fst t2.snd.snd.snd.snd; let t4 := A.ival_Join t1.snd.fst t1.snd.snd.fst t2.snd.fst t2.snd.snd.fst; let t5 := B.cong_Join t1.snd.snd.snd.fst t1.snd.snd.snd.snd t2.snd.snd.snd.fst t2.snd.snd.snd.snd; let t6 := num_Make t4.fst t4.snd t5.fst t5.snd; num_Join.c0 n k a0 a1 a2 a3 a4 b0 b1 b2 b3 b4 t1 t2 t3 t4 t5 t6
def num_Join.ok (a0 : Bool) (a1 : Int) (a2 : Int) (a3 : Int) (a4 : Int) (b0 : Bool) (b1 : Int) (b2 : Int) (b3 : Int) (b4 : Int) : Bool := num_Join.c false (fun _ => true) a0 a1 a2 a3 a4 b0 b1 b2 b3 b4
def num_Join (a0 : Bool) (a1 : Int) (a2 : Int) (a3 : Int) (a4 : Int) (b0 : Bool) (b1 : Int) (b2 : Int) (b3 : Int) (b4 : Int) : Bool × Int × Int × Int × Int := num_Join.c (false, 0, 0, 0, 0) id a0 a1 a2 a3 a4 b0 b1 b2 b3 b4
def num_Join.F : FV := mkF (cP (cA (cP cB (cP (cI .i64) (cP (cI .i64) (cP (cI .u64) (cP (cI .u64) cU)))))) (cP (cA (cP cB (cP (cI .i64) (cP (cI .i64) (cP (cI .u64) (cP (cI .u64) cU)))))) cU)) (fun | ((a0, (a1, (a2, (a3, (a4, ()))))), ((b0, (b1, (b2, (b3, (b4, ()))))), ())) => num_Join.ok a0 a1 a2 a3 a4 b0 b1 b2 b3 b4) (fun | ((a0, (a1, (a2, (a3, (a4, ()))))), ((b0, (b1, (b2, (b3, (b4, ()))))), ())) => .agg #[.bool (num_Join a0 a1 a2 a3 a4 b0 b1 b2 b3 b4).1, .int .i64 (num_Join a0 a1 a2 a3 a4 b0 b1 b2 b3 b4).2.1, .int .i64 (num_Join a0 a1 a2 a3 a4 b0 b1 b2 b3 b4).2.2.1, .int .u64 (num_Join a0 a1 a2 a3 a4 b0 b1 b2 b3 b4).2.2.2.1, .int .u64 (num_Join a0 a1 a2 a3 a4 b0 b1 b2 b3 b4).2.2.2.2])
def L_num_Join : TL := (37, num_Join.F) :: L_num_Leq
theorem num_Join.p0 {γ : Type} (k : Bool × Int × Int × Int × Int → γ) (a0 : Bool) (a1 : Int) (a2 : Int) (a3 : Int) (a4 : Int) (b0 : Bool) (b1 : Int) (b2 : Int) (b3 : Int) (b4 : Int) (t1 : Bool × Int × Int × Int × Int) (t2 : Bool × Int × Int × Int × Int) (t3 : Bool) (t4 : Int × Int) (t5 : Int × Int) (t6 : Bool × Int × Int × Int × Int) : num_Join.c0 false (fun _ => true) a0 a1 a2 a3 a4 b0 b1 b2 b3 b4 t1 t2 t3 t4 t5 t6 = true → num_Join.c0 none (fun q => some (k q)) a0 a1 a2 a3 a4 b0 b1 b2 b3 b4 t1 t2 t3 t4 t5 t6 = some (k (num_Join.c0 (false, 0, 0, 0, 0) id a0 a1 a2 a3 a4 b0 b1 b2 b3 b4 t1 t2 t3 t4 t5 t6)) := by
  unfold num_Join.c0; (repeat' (first | (apply pn k) | (exact pn_none _ _) | (exact pn_leaf k _)))
theorem num_Join.p {γ : Type} (k : Bool × Int × Int × Int × Int → γ) (a0 : Bool) (a1 : Int) (a2 : Int) (a3 : Int) (a4 : Int) (b0 : Bool) (b1 : Int) (b2 : Int) (b3 : Int) (b4 : Int) (h : num_Join.ok a0 a1 a2 a3 a4 b0 b1 b2 b3 b4 = true) : num_Join.c none (fun q => some (k q)) a0 a1 a2 a3 a4 b0 b1 b2 b3 b4 = some (k (num_Join a0 a1 a2 a3 a4 b0 b1 b2 b3 b4)) :=
  let t1 := num_Norm a0 a1 a2 a3 a4; let t2 := num_Norm b0 b1 b2 b3 b4; let t3 := B.cong_Join.ok t1.snd.snd.snd.fst t1.snd.snd.snd.snd t2.snd.snd.snd.fst t2.snd.snd.snd.snd; let t4 := A.ival_Join t1.snd.fst t1.snd.snd.fst t2.snd.fst t2.snd.snd.fst; let t5 := B.cong_Join t1.snd.snd.snd.fst t1.snd.snd.snd.snd t2.snd.snd.snd.fst t2.snd.snd.snd.snd; let t6 := num_Make t4.fst t4.snd t5.fst t5.snd; num_Join.p0 k a0 a1 a2 a3 a4 b0 b1 b2 b3 b4 t1 t2 t3 t4 t5 t6 h
theorem num_Join.r (a0 : Bool) (a1 : Int) (a2 : Int) (a3 : Int) (a4 : Int) (b0 : Bool) (b1 : Int) (b2 : Int) (b3 : Int) (b4 : Int) : runF P G (tab L_num_Leq) { merge := true, glue := true } 60 Tryz.f37 [.agg #[.bool a0, .int .i64 a1, .int .i64 a2, .int .u64 a3, .int .u64 a4], .agg #[.bool b0, .int .i64 b1, .int .i64 b2, .int .u64 b3, .int .u64 b4]] = num_Join.c none (fun q => some (.agg #[.bool (q).1, .int .i64 (q).2.1, .int .i64 (q).2.2.1, .int .u64 (q).2.2.2.1, .int .u64 (q).2.2.2.2] : Value)) a0 a1 a2 a3 a4 b0 b1 b2 b3 b4 := by kernel_rfl
theorem num_Join.t : TabOK P G (tab L_num_Join) :=
  TabOK_mkL C num_Leq.t Tryz.func37 (by kernel_rfl) { merge := true, glue := true } (fun c _ => LoopsOK_nil c) 60 (by
    rintro ⟨⟨a0, ⟨a1, ⟨a2, ⟨a3, ⟨a4, ⟨⟩⟩⟩⟩⟩⟩, ⟨⟨b0, ⟨b1, ⟨b2, ⟨b3, ⟨b4, ⟨⟩⟩⟩⟩⟩⟩, ⟨⟩⟩⟩ h
    exact (num_Join.r a0 a1 a2 a3 a4 b0 b1 b2 b3 b4).trans (num_Join.p (fun q => (.agg #[.bool (q).1, .int .i64 (q).2.1, .int .i64 (q).2.2.1, .int .u64 (q).2.2.2.1, .int .u64 (q).2.2.2.2] : Value)) a0 a1 a2 a3 a4 b0 b1 b2 b3 b4 h))
def num_Meet.c0 {γ : Type} (n : γ) (k : Bool × Int × Int × Int × Int → γ) (a0 : Bool) (a1 : Int) (a2 : Int) (a3 : Int) (a4 : Int) (b0 : Bool) (b1 : Int) (b2 : Int) (b3 : Int) (b4 : Int) (t1 : Bool × Int × Int × Int × Int) (t2 : Bool × Int × Int × Int × Int) (t3 : Bool) (t4 : Bool) (t5 : Int × Int × Bool) (t6 : Bool) (t7 : Int × Int) (t8 : Bool × Int × Int × Int × Int) : γ := bif t3
  then bif t6
   then k (num_Bot.fst, num_Bot.snd.fst, num_Bot.snd.snd.fst, num_Bot.snd.snd.snd.fst, num_Bot.snd.snd.snd.snd)
   else k (t8.fst, t8.snd.fst, t8.snd.snd.fst, t8.snd.snd.snd.fst, t8.snd.snd.snd.snd)
  else n
def num_Meet.c {γ : Type} (n : γ) (k : Bool × Int × Int × Int × Int → γ) (a0 : Bool) (a1 : Int) (a2 : Int) (a3 : Int) (a4 : Int) (b0 : Bool) (b1 : Int) (b2 : Int) (b3 : Int) (b4 : Int) : γ := let t1 := num_Norm a0 a1 a2 a3 a4; let t2 := num_Norm b0 b1 b2 b3 b4; let t3 := B.cong_Meet.ok t1.snd.snd.snd.fst t1.snd.snd.snd.snd t2.snd.snd.snd.fst t2.snd.snd.snd.snd; let t4 := bif t1.fst then true else t2.fst; let t5 := B.cong_Meet t1.snd.snd.snd.fst t1.snd.snd.snd.snd t2.snd.snd.snd.fst t2.snd.snd.snd.snd; let t6 := bif t4 then true else !t5.snd.snd; let t7 := A.ival_Meet t1.snd.fst t1.snd.snd.fst t2.snd.fst t2.snd.snd.fst; let t8 := num_Make t7.fst t7.snd t5.fst t5.snd.fst; num_Meet.c0 n k a0 a1 a2 a3 a4 b0 b1 b2 b3 b4 t1 t2 t3 t4 t5 t6 t7 t8
def num_Meet.ok (a0 : Bool) (a1 : Int) (a2 : Int) (a3 : Int) (a4 : Int) (b0 : Bool) (b1 : Int) (b2 : Int) (b3 : Int) (b4 : Int) : Bool := num_Meet.c false (fun _ => true) a0 a1 a2 a3 a4 b0 b1 b2 b3 b4
def num_Meet (a0 : Bool) (a1 : Int) (a2 : Int) (a3 : Int) (a4 : Int) (b0 : Bool) (b1 : Int) (b2 : Int) (b3 : Int) (b4 : Int) : Bool × Int × Int × Int × Int := num_Meet.c (false, 0, 0, 0, 0) id a0 a1 a2 a3 a4 b0 b1 b2 b3 b4
def num_Meet.F : FV := mkF (cP (cA (cP cB (cP (cI .i64) (cP (cI .i64) (cP (cI .u64) (cP (cI .u64) cU)))))) (cP (cA (cP cB (cP (cI .i64) (cP (cI .i64) (cP (cI .u64) (cP (cI .u64) cU)))))) cU)) (fun | ((a0, (a1, (a2, (a3, (a4, ()))))), ((b0, (b1, (b2, (b3, (b4, ()))))), ())) => num_Meet.ok a0 a1 a2 a3 a4 b0 b1 b2 b3 b4) (fun | ((a0, (a1, (a2, (a3, (a4, ()))))), ((b0, (b1, (b2, (b3, (b4, ()))))), ())) => .agg #[.bool (num_Meet a0 a1 a2 a3 a4 b0 b1 b2 b3 b4).1, .int .i64 (num_Meet a0 a1 a2 a3 a4 b0 b1 b2 b3 b4).2.1, .int .i64 (num_Meet a0 a1 a2 a3 a4 b0 b1 b2 b3 b4).2.2.1, .int .u64 (num_Meet a0 a1 a2 a3 a4 b0 b1 b2 b3 b4).2.2.2.1, .int .u64 (num_Meet a0 a1 a2 a3 a4 b0 b1 b2 b3 b4).2.2.2.2])
def L_num_Meet : TL := (39, num_Meet.F) :: L_num_Join
theorem num_Meet.p0 {γ : Type} (k : Bool × Int × Int × Int × Int → γ) (a0 : Bool) (a1 : Int) (a2 : Int) (a3 : Int) (a4 : Int) (b0 : Bool) (b1 : Int) (b2 : Int) (b3 : Int) (b4 : Int) (t1 : Bool × Int × Int × Int × Int) (t2 : Bool × Int × Int × Int × Int) (t3 : Bool) (t4 : Bool) (t5 : Int × Int × Bool) (t6 : Bool) (t7 : Int × Int) (t8 : Bool × Int × Int × Int × Int) : num_Meet.c0 false (fun _ => true) a0 a1 a2 a3 a4 b0 b1 b2 b3 b4 t1 t2 t3 t4 t5 t6 t7 t8 = true → num_Meet.c0 none (fun q => some (k q)) a0 a1 a2 a3 a4 b0 b1 b2 b3 b4 t1 t2 t3 t4 t5 t6 t7 t8 = some (k (num_Meet.c0 (false, 0, 0, 0, 0) id a0 a1 a2 a3 a4 b0 b1 b2 b3 b4 t1 t2 t3 t4 t5 t6 t7 t8)) := by
  unfold num_Meet.c0; (repeat' (first | (apply pn k) | (exact pn_none _ _) | (exact pn_leaf k _)))
theorem num_Meet.p {γ : Type} (k : Bool × Int × Int × Int × Int → γ) (a0 : Bool) (a1 : Int) (a2 : Int) (a3 : Int) (a4 : Int) (b0 : Bool) (b1 : Int) (b2 : Int) (b3 : Int) (b4 : Int) (h : num_Meet.ok a0 a1 a2 a3 a4 b0 b1 b2 b3 b4 = true) : num_Meet.c none (fun q => some (k q)) a0 a1 a2 a3 a4 b0 b1 b2 b3 b4 = some (k (num_Meet a0 a1 a2 a3 a4 b0 b1 b2 b3 b4)) :=
  let t1 := num_Norm a0 a1 a2 a3 a4; let t2 := num_Norm b0 b1 b2 b3 b4; let t3 := B.cong_Meet.ok t1.snd.snd.snd.fst t1.snd.snd.snd.snd t2.snd.snd.snd.fst t2.snd.snd.snd.snd; let t4 := bif t1.fst then true else t2.fst; let t5 := B.cong_Meet t1.snd.snd.snd.fst t1.snd.snd.snd.snd t2.snd.snd.snd.fst t2.snd.snd.snd.snd; let t6 := bif t4 then true else !t5.snd.snd; let t7 := A.ival_Meet t1.snd.fst t1.snd.snd.fst t2.snd.fst t2.snd.snd.fst; let t8 := num_Make t7.fst t7.snd t5.fst t5.snd.fst; num_Meet.p0 k a0 a1 a2 a3 a4 b0 b1 b2 b3 b4 t1 t2 t3 t4 t5 t6 t7 t8 h
theorem num_Meet.r (a0 : Bool) (a1 : Int) (a2 : Int) (a3 : Int) (a4 : Int) (b0 : Bool) (b1 : Int) (b2 : Int) (b3 : Int) (b4 : Int) : runF P G (tab L_num_Join) { merge := true, glue := true } 60 Tryz.f39 [.agg #[.bool a0, .int .i64 a1, .int .i64 a2, .int .u64 a3, .int .u64 a4], .agg #[.bool b0, .int .i64 b1, .int .i64 b2, .int .u64 b3, .int .u64 b4]] = num_Meet.c none (fun q => some (.agg #[.bool (q).1, .int .i64 (q).2.1, .int .i64 (q).2.2.1, .int .u64 (q).2.2.2.1, .int .u64 (q).2.2.2.2] : Value)) a0 a1 a2 a3 a4 b0 b1 b2 b3 b4 := by kernel_rfl
theorem num_Meet.t : TabOK P G (tab L_num_Meet) :=
  TabOK_mkL C num_Join.t Tryz.func39 (by kernel_rfl) { merge := true, glue := true } (fun c _ => LoopsOK_nil c) 60 (by
    rintro ⟨⟨a0, ⟨a1, ⟨a2, ⟨a3, ⟨a4, ⟨⟩⟩⟩⟩⟩⟩, ⟨⟨b0, ⟨b1, ⟨b2, ⟨b3, ⟨b4, ⟨⟩⟩⟩⟩⟩⟩, ⟨⟩⟩⟩ h
    exact (num_Meet.r a0 a1 a2 a3 a4 b0 b1 b2 b3 b4).trans (num_Meet.p (fun q => (.agg #[.bool (q).1, .int .i64 (q).2.1, .int .i64 (q).2.2.1, .int .u64 (q).2.2.2.1, .int .u64 (q).2.2.2.2] : Value)) a0 a1 a2 a3 a4 b0 b1 b2 b3 b4 h))
def num_NonZero.c0 {γ : Type} (k : Bool × Int × Int × Int × Int → γ) (a0 : Bool) (a1 : Int) (a2 : Int) (a3 : Int) (a4 : Int) (t1 : Bool × Int × Int × Int × Int) (t2 : Bool) (t3 : Bool) (t4 : Bool) (t5 : Bool × Int × Int × Int × Int) (t6 : Bool × Int × Int × Int × Int) : γ := bif t3
  then k (t1.fst, t1.snd.fst, t1.snd.snd.fst, t1.snd.snd.snd.fst, t1.snd.snd.snd.snd)
  else bif t4
   then k (num_Bot.fst, num_Bot.snd.fst, num_Bot.snd.snd.fst, num_Bot.snd.snd.snd.fst, num_Bot.snd.snd.snd.snd)
   else bif t1.snd.fst == 0
    then k (t5.fst, t5.snd.fst, t5.snd.snd.fst, t5.snd.snd.snd.fst, t5.snd.snd.snd.snd)
    else k (t6.fst, t6.snd.fst, t6.snd.snd.fst, t6.snd.snd.snd.fst, t6.snd.snd.snd.snd)
def num_NonZero.c {γ : Type} (k : Bool × Int × Int × Int × Int → γ) (a0 : Bool) (a1 : Int) (a2 : Int) (a3 : Int) (a4 : Int) : γ := let t1 := num_Norm a0 a1 a2 a3 a4; let t2 := bif t1.snd.fst != 0 then t1.snd.snd.fst != 0 else false; let t3 := bif t1.fst then true else t2; let t4 := bif t1.snd.fst == 0 then t1.snd.snd.fst == 0 else false; let t5 := num_Make 1 t1.snd.snd.fst t1.snd.snd.snd.fst t1.snd.snd.snd.snd; let t6 := num_Make t1.snd.fst (-1) t1.snd.snd.snd.fst t1.snd.snd.snd.snd; num_NonZero.c0 k a0 a1 a2 a3 a4 t1 t2 t3 t4 t5 t6
def num_NonZero (a0 : Bool) (a1 : Int) (a2 : Int) (a3 : Int) (a4 : Int) : Bool × Int × Int × Int × Int := num_NonZero.c id a0 a1 a2 a3 a4
def num_NonZero.F : FV := mkF (cP (cA (cP cB (cP (cI .i64) (cP (cI .i64) (cP (cI .u64) (cP (cI .u64) cU)))))) cU) (fun _ => true) (fun | ((a0, (a1, (a2, (a3, (a4, ()))))), ()) => .agg #[.bool (num_NonZero a0 a1 a2 a3 a4).1, .int .i64 (num_NonZero a0 a1 a2 a3 a4).2.1, .int .i64 (num_NonZero a0 a1 a2 a3 a4).2.2.1, .int .u64 (num_NonZero a0 a1 a2 a3 a4).2.2.2.1, .int .u64 (num_NonZero a0 a1 a2 a3 a4).2.2.2.2])
def L_num_NonZero : TL := (35, num_NonZero.F) :: L_num_Meet
theorem num_NonZero.p0 {γ : Type} (k : Bool × Int × Int × Int × Int → γ) (a0 : Bool) (a1 : Int) (a2 : Int) (a3 : Int) (a4 : Int) (t1 : Bool × Int × Int × Int × Int) (t2 : Bool) (t3 : Bool) (t4 : Bool) (t5 : Bool × Int × Int × Int × Int) (t6 : Bool × Int × Int × Int × Int) : num_NonZero.c0 k a0 a1 a2 a3 a4 t1 t2 t3 t4 t5 t6 = k (num_NonZero.c0 id a0 a1 a2 a3 a4 t1 t2 t3 t4 t5 t6) := by
  unfold num_NonZero.c0; (repeat' (first | (apply pc k) | (exact rfl)))
theorem num_NonZero.p {γ : Type} (k : Bool × Int × Int × Int × Int → γ) (a0 : Bool) (a1 : Int) (a2 : Int) (a3 : Int) (a4 : Int) : num_NonZero.c k a0 a1 a2 a3 a4 = k (num_NonZero a0 a1 a2 a3 a4) :=
  let t1 := num_Norm a0 a1 a2 a3 a4; let t2 := bif t1.snd.fst != 0 then t1.snd.snd.fst != 0 else false; let t3 := bif t1.fst then true else t2; let t4 := bif t1.snd.fst == 0 then t1.snd.snd.fst == 0 else false; let t5 := num_Make 1 t1.snd.snd.fst t1.snd.snd.snd.fst t1.snd.snd.snd.snd; let t6 := num_Make t1.snd.fst (-1) t1.snd.snd.snd.fst t1.snd.snd.snd.snd; num_NonZero.p0 k a0 a1 a2 a3 a4 t1 t2 t3 t4 t5 t6
theorem num_NonZero.r (a0 : Bool) (a1 : Int) (a2 : Int) (a3 : Int) (a4 : Int) : runF P G (tab L_num_Meet) { merge := true, glue := true } 60 Tryz.f35 [.agg #[.bool a0, .int .i64 a1, .int .i64 a2, .int .u64 a3, .int .u64 a4]] = num_NonZero.c (fun q => some (.agg #[.bool (q).1, .int .i64 (q).2.1, .int .i64 (q).2.2.1, .int .u64 (q).2.2.2.1, .int .u64 (q).2.2.2.2] : Value)) a0 a1 a2 a3 a4 := by kernel_rfl
theorem num_NonZero.t : TabOK P G (tab L_num_NonZero) :=
  TabOK_mkL C num_Meet.t Tryz.func35 (by kernel_rfl) { merge := true, glue := true } (fun c _ => LoopsOK_nil c) 60 (by
    rintro ⟨⟨a0, ⟨a1, ⟨a2, ⟨a3, ⟨a4, ⟨⟩⟩⟩⟩⟩⟩, ⟨⟩⟩ h
    exact (num_NonZero.r a0 a1 a2 a3 a4).trans (num_NonZero.p (fun q => some (.agg #[.bool (q).1, .int .i64 (q).2.1, .int .i64 (q).2.2.1, .int .u64 (q).2.2.2.1, .int .u64 (q).2.2.2.2] : Value)) a0 a1 a2 a3 a4))
def num_op1.c0 {γ : Type} (k : Int × Int × Bool → γ) (a0 : Int) (a1 : Int) (b0 : Int) (b1 : Int) (t1 : Int × Int × Bool) : γ := k (t1.fst, t1.snd.fst, t1.snd.snd)
def num_op1.c {γ : Type} (k : Int × Int × Bool → γ) (a0 : Int) (a1 : Int) (b0 : Int) (b1 : Int) : γ := let t1 := A.ival_Neg a0 a1; num_op1.c0 k a0 a1 b0 b1 t1
def num_op1 (a0 : Int) (a1 : Int) (b0 : Int) (b1 : Int) : Int × Int × Bool := num_op1.c id a0 a1 b0 b1
def num_op1.F : FV := mkF (cP (cA (cP (cI .i64) (cP (cI .i64) cU))) (cP (cA (cP (cI .i64) (cP (cI .i64) cU))) cU)) (fun _ => true) (fun | ((a0, (a1, ())), ((b0, (b1, ())), ())) => .tuple #[.agg #[.int .i64 (num_op1 a0 a1 b0 b1).1, .int .i64 (num_op1 a0 a1 b0 b1).2.1], .bool (num_op1 a0 a1 b0 b1).2.2])
def L_num_op1 : TL := (114, num_op1.F) :: L_num_NonZero
theorem num_op1.p0 {γ : Type} (k : Int × Int × Bool → γ) (a0 : Int) (a1 : Int) (b0 : Int) (b1 : Int) (t1 : Int × Int × Bool) : num_op1.c0 k a0 a1 b0 b1 t1 = k (num_op1.c0 id a0 a1 b0 b1 t1) := by
  unfold num_op1.c0; (repeat' (first | (apply pc k) | (exact rfl)))
theorem num_op1.p {γ : Type} (k : Int × Int × Bool → γ) (a0 : Int) (a1 : Int) (b0 : Int) (b1 : Int) : num_op1.c k a0 a1 b0 b1 = k (num_op1 a0 a1 b0 b1) :=
  let t1 := A.ival_Neg a0 a1; num_op1.p0 k a0 a1 b0 b1 t1
theorem num_op1.r (a0 : Int) (a1 : Int) (b0 : Int) (b1 : Int) : runF P G (tab L_num_NonZero) { merge := true, glue := true } 60 Tryz.f114 [.agg #[.int .i64 a0, .int .i64 a1], .agg #[.int .i64 b0, .int .i64 b1]] = num_op1.c (fun q => some (.tuple #[.agg #[.int .i64 (q).1, .int .i64 (q).2.1], .bool (q).2.2] : Value)) a0 a1 b0 b1 := by kernel_rfl
theorem num_op1.t : TabOK P G (tab L_num_op1) :=
  TabOK_mkL C num_NonZero.t Tryz.func114 (by kernel_rfl) { merge := true, glue := true } (fun c _ => LoopsOK_nil c) 60 (by
    rintro ⟨⟨a0, ⟨a1, ⟨⟩⟩⟩, ⟨⟨b0, ⟨b1, ⟨⟩⟩⟩, ⟨⟩⟩⟩ h
    exact (num_op1.r a0 a1 b0 b1).trans (num_op1.p (fun q => some (.tuple #[.agg #[.int .i64 (q).1, .int .i64 (q).2.1], .bool (q).2.2] : Value)) a0 a1 b0 b1))
def num_op2.c0 {γ : Type} (n : γ) (k : Int × Int → γ) (a0 : Int) (a1 : Int) (b0 : Int) (b1 : Int) (c : Bool) (t1 : Bool) (t2 : Int × Int) : γ := bif t1
  then k (t2.fst, t2.snd)
  else n
def num_op2.c {γ : Type} (n : γ) (k : Int × Int → γ) (a0 : Int) (a1 : Int) (b0 : Int) (b1 : Int) (c : Bool) : γ := let t1 := B.cong_Neg.ok a0 a1 c; let t2 := B.cong_Neg a0 a1 c; num_op2.c0 n k a0 a1 b0 b1 c t1 t2
def num_op2.ok (a0 : Int) (a1 : Int) (b0 : Int) (b1 : Int) (c : Bool) : Bool := num_op2.c false (fun _ => true) a0 a1 b0 b1 c
def num_op2 (a0 : Int) (a1 : Int) (b0 : Int) (b1 : Int) (c : Bool) : Int × Int := num_op2.c (0, 0) id a0 a1 b0 b1 c
def num_op2.F : FV := mkF (cP (cA (cP (cI .u64) (cP (cI .u64) cU))) (cP (cA (cP (cI .u64) (cP (cI .u64) cU))) (cP cB cU))) (fun | ((a0, (a1, ())), ((b0, (b1, ())), (c, ()))) => num_op2.ok a0 a1 b0 b1 c) (fun | ((a0, (a1, ())), ((b0, (b1, ())), (c, ()))) => .agg #[.int .u64 (num_op2 a0 a1 b0 b1 c).1, .int .u64 (num_op2 a0 a1 b0 b1 c).2])
def L_num_op2 : TL := (116, num_op2.F) :: L_num_op1
theorem num_op2.p0 {γ : Type} (k : Int × Int → γ) (a0 : Int) (a1 : Int) (b0 : Int) (b1 : Int) (c : Bool) (t1 : Bool) (t2 : Int × Int) : num_op2.c0 false (fun _ => true) a0 a1 b0 b1 c t1 t2 = true → num_op2.c0 none (fun q => some (k q)) a0 a1 b0 b1 c t1 t2 = some (k (num_op2.c0 (0, 0) id a0 a1 b0 b1 c t1 t2)) := by
  unfold num_op2.c0; (repeat' (first | (apply pn k) | (exact pn_none _ _) | (exact pn_leaf k _)))
theorem num_op2.p {γ : Type} (k : Int × Int → γ) (a0 : Int) (a1 : Int) (b0 : Int) (b1 : Int) (c : Bool) (h : num_op2.ok a0 a1 b0 b1 c = true) : num_op2.c none (fun q => some (k q)) a0 a1 b0 b1 c = some (k (num_op2 a0 a1 b0 b1 c)) :=
  let t1 := B.cong_Neg.ok a0 a1 c; let t2 := B.cong_Neg a0 a1 c; num_op2.p0 k a0 a1 b0 b1 c t1 t2 h
theorem num_op2.r (a0 : Int) (a1 : Int) (b0 : Int) (b1 : Int) (c : Bool) : runF P G (tab L_num_op1) { merge := true, glue := true } 60 Tryz.f116 [.agg #[.int .u64 a0, .int .u64 a1], .agg #[.int .u64 b0, .int .u64 b1], .bool c] = num_op2.c none (fun q => some (.agg #[.int .u64 (q).1, .int .u64 (q).2] : Value)) a0 a1 b0 b1 c := by kernel_rfl
theorem num_op2.t : TabOK P G (tab L_num_op2) :=
  TabOK_mkL C num_op1.t Tryz.func116 (by kernel_rfl) { merge := true, glue := true } (fun c _ => LoopsOK_nil c) 60 (by
    rintro ⟨⟨a0, ⟨a1, ⟨⟩⟩⟩, ⟨⟨b0, ⟨b1, ⟨⟩⟩⟩, ⟨c, ⟨⟩⟩⟩⟩ h
    exact (num_op2.r a0 a1 b0 b1 c).trans (num_op2.p (fun q => (.agg #[.int .u64 (q).1, .int .u64 (q).2] : Value)) a0 a1 b0 b1 c h))
def num_op3.c0 {γ : Type} (n : γ) (k : Int × Int → γ) (a0 : Int) (a1 : Int) (b0 : Int) (b1 : Int) (c : Bool) (t1 : Bool) (t2 : Int × Int) : γ := bif t1
  then k (t2.fst, t2.snd)
  else n
def num_op3.c {γ : Type} (n : γ) (k : Int × Int → γ) (a0 : Int) (a1 : Int) (b0 : Int) (b1 : Int) (c : Bool) : γ := let t1 := B.cong_Div.ok a0 a1 b0 b1; let t2 := B.cong_Div a0 a1 b0 b1; num_op3.c0 n k a0 a1 b0 b1 c t1 t2
def num_op3.ok (a0 : Int) (a1 : Int) (b0 : Int) (b1 : Int) (c : Bool) : Bool := num_op3.c false (fun _ => true) a0 a1 b0 b1 c
def num_op3 (a0 : Int) (a1 : Int) (b0 : Int) (b1 : Int) (c : Bool) : Int × Int := num_op3.c (0, 0) id a0 a1 b0 b1 c
def num_op3.F : FV := mkF (cP (cA (cP (cI .u64) (cP (cI .u64) cU))) (cP (cA (cP (cI .u64) (cP (cI .u64) cU))) (cP cB cU))) (fun | ((a0, (a1, ())), ((b0, (b1, ())), (c, ()))) => num_op3.ok a0 a1 b0 b1 c) (fun | ((a0, (a1, ())), ((b0, (b1, ())), (c, ()))) => .agg #[.int .u64 (num_op3 a0 a1 b0 b1 c).1, .int .u64 (num_op3 a0 a1 b0 b1 c).2])
def L_num_op3 : TL := (125, num_op3.F) :: L_num_op2
theorem num_op3.p0 {γ : Type} (k : Int × Int → γ) (a0 : Int) (a1 : Int) (b0 : Int) (b1 : Int) (c : Bool) (t1 : Bool) (t2 : Int × Int) : num_op3.c0 false (fun _ => true) a0 a1 b0 b1 c t1 t2 = true → num_op3.c0 none (fun q => some (k q)) a0 a1 b0 b1 c t1 t2 = some (k (num_op3.c0 (0, 0) id a0 a1 b0 b1 c t1 t2)) := by
  unfold num_op3.c0; (repeat' (first | (apply pn k) | (exact pn_none _ _) | (exact pn_leaf k _)))
theorem num_op3.p {γ : Type} (k : Int × Int → γ) (a0 : Int) (a1 : Int) (b0 : Int) (b1 : Int) (c : Bool) (h : num_op3.ok a0 a1 b0 b1 c = true) : num_op3.c none (fun q => some (k q)) a0 a1 b0 b1 c = some (k (num_op3 a0 a1 b0 b1 c)) :=
  let t1 := B.cong_Div.ok a0 a1 b0 b1; let t2 := B.cong_Div a0 a1 b0 b1; num_op3.p0 k a0 a1 b0 b1 c t1 t2 h
theorem num_op3.r (a0 : Int) (a1 : Int) (b0 : Int) (b1 : Int) (c : Bool) : runF P G (tab L_num_op2) { merge := true, glue := true } 60 Tryz.f125 [.agg #[.int .u64 a0, .int .u64 a1], .agg #[.int .u64 b0, .int .u64 b1], .bool c] = num_op3.c none (fun q => some (.agg #[.int .u64 (q).1, .int .u64 (q).2] : Value)) a0 a1 b0 b1 c := by kernel_rfl
theorem num_op3.t : TabOK P G (tab L_num_op3) :=
  TabOK_mkL C num_op2.t Tryz.func125 (by kernel_rfl) { merge := true, glue := true } (fun c _ => LoopsOK_nil c) 60 (by
    rintro ⟨⟨a0, ⟨a1, ⟨⟩⟩⟩, ⟨⟨b0, ⟨b1, ⟨⟩⟩⟩, ⟨c, ⟨⟩⟩⟩⟩ h
    exact (num_op3.r a0 a1 b0 b1 c).trans (num_op3.p (fun q => (.agg #[.int .u64 (q).1, .int .u64 (q).2] : Value)) a0 a1 b0 b1 c h))
def num_op4.c0 {γ : Type} (n : γ) (k : Int × Int → γ) (a0 : Int) (a1 : Int) (b0 : Int) (b1 : Int) (c : Bool) (t1 : Bool) (t2 : Int × Int) : γ := bif t1
  then k (t2.fst, t2.snd)
  else n
def num_op4.c {γ : Type} (n : γ) (k : Int × Int → γ) (a0 : Int) (a1 : Int) (b0 : Int) (b1 : Int) (c : Bool) : γ := let t1 := B.cong_Rem.ok a0 a1 b0 b1; let t2 := B.cong_Rem a0 a1 b0 b1; num_op4.c0 n k a0 a1 b0 b1 c t1 t2
def num_op4.ok (a0 : Int) (a1 : Int) (b0 : Int) (b1 : Int) (c : Bool) : Bool := num_op4.c false (fun _ => true) a0 a1 b0 b1 c
def num_op4 (a0 : Int) (a1 : Int) (b0 : Int) (b1 : Int) (c : Bool) : Int × Int := num_op4.c (0, 0) id a0 a1 b0 b1 c
def num_op4.F : FV := mkF (cP (cA (cP (cI .u64) (cP (cI .u64) cU))) (cP (cA (cP (cI .u64) (cP (cI .u64) cU))) (cP cB cU))) (fun | ((a0, (a1, ())), ((b0, (b1, ())), (c, ()))) => num_op4.ok a0 a1 b0 b1 c) (fun | ((a0, (a1, ())), ((b0, (b1, ())), (c, ()))) => .agg #[.int .u64 (num_op4 a0 a1 b0 b1 c).1, .int .u64 (num_op4 a0 a1 b0 b1 c).2])
def L_num_op4 : TL := (128, num_op4.F) :: L_num_op3
theorem num_op4.p0 {γ : Type} (k : Int × Int → γ) (a0 : Int) (a1 : Int) (b0 : Int) (b1 : Int) (c : Bool) (t1 : Bool) (t2 : Int × Int) : num_op4.c0 false (fun _ => true) a0 a1 b0 b1 c t1 t2 = true → num_op4.c0 none (fun q => some (k q)) a0 a1 b0 b1 c t1 t2 = some (k (num_op4.c0 (0, 0) id a0 a1 b0 b1 c t1 t2)) := by
  unfold num_op4.c0; (repeat' (first | (apply pn k) | (exact pn_none _ _) | (exact pn_leaf k _)))
theorem num_op4.p {γ : Type} (k : Int × Int → γ) (a0 : Int) (a1 : Int) (b0 : Int) (b1 : Int) (c : Bool) (h : num_op4.ok a0 a1 b0 b1 c = true) : num_op4.c none (fun q => some (k q)) a0 a1 b0 b1 c = some (k (num_op4 a0 a1 b0 b1 c)) :=
  let t1 := B.cong_Rem.ok a0 a1 b0 b1; let t2 := B.cong_Rem a0 a1 b0 b1; num_op4.p0 k a0 a1 b0 b1 c t1 t2 h
theorem num_op4.r (a0 : Int) (a1 : Int) (b0 : Int) (b1 : Int) (c : Bool) : runF P G (tab L_num_op3) { merge := true, glue := true } 60 Tryz.f128 [.agg #[.int .u64 a0, .int .u64 a1], .agg #[.int .u64 b0, .int .u64 b1], .bool c] = num_op4.c none (fun q => some (.agg #[.int .u64 (q).1, .int .u64 (q).2] : Value)) a0 a1 b0 b1 c := by kernel_rfl
theorem num_op4.t : TabOK P G (tab L_num_op4) :=
  TabOK_mkL C num_op3.t Tryz.func128 (by kernel_rfl) { merge := true, glue := true } (fun c _ => LoopsOK_nil c) 60 (by
    rintro ⟨⟨a0, ⟨a1, ⟨⟩⟩⟩, ⟨⟨b0, ⟨b1, ⟨⟩⟩⟩, ⟨c, ⟨⟩⟩⟩⟩ h
    exact (num_op4.r a0 a1 b0 b1 c).trans (num_op4.p (fun q => (.agg #[.int .u64 (q).1, .int .u64 (q).2] : Value)) a0 a1 b0 b1 c h))
def num_Apply.c0 {γ : Type} (n : γ) (k : Bool × Int × Int × Int × Int × Int → γ) (a : Int) (b0 : Bool) (b1 : Int) (b2 : Int) (b3 : Int) (b4 : Int) (c0 : Bool) (c1 : Int) (c2 : Int) (c3 : Int) (c4 : Int) (t1 : Bool × Int × Int × Int × Int) (t2 : Bool × Int × Int × Int × Int) (t3 : Bool) (t4 : Bool) (t5 : Int × Int × Bool) (t6 : Bool) (t7 : Int × Int) (t8 : Bool × Int × Int × Int × Int) (t9 : Int × Int × Bool) (t10 : Bool) (t11 : Int × Int) (t12 : Bool × Int × Int × Int × Int) (t13 : Int × Int × Bool) (t14 : Bool) (t15 : Int × Int) (t16 : Bool × Int × Int × Int × Int) (t17 : Int × Int × Bool) (t18 : Bool) (t19 : Int × Int) (t20 : Bool × Int × Int × Int × Int) (t21 : Bool × Int × Int × Int × Int) (t22 : Bool) (t23 : Bool) (t24 : Int × Int × Bool) (t25 : Bool) (t26 : Int × Int) (t27 : Bool × Int × Int × Int × Int) (t28 : Int × Int × Bool) (t29 : Bool) (t30 : Int × Int) (t31 : Bool × Int × Int × Int × Int) : γ := bif a == 1
  then bif t4
   then k (num_Bot.fst, num_Bot.snd.fst, num_Bot.snd.snd.fst, num_Bot.snd.snd.snd.fst, num_Bot.snd.snd.snd.snd, 0)
   else bif t6
    then k (t8.fst, t8.snd.fst, t8.snd.snd.fst, t8.snd.snd.snd.fst, t8.snd.snd.snd.snd, 0)
    else n
  else bif a == 3
   then bif t4
    then k (num_Bot.fst, num_Bot.snd.fst, num_Bot.snd.snd.fst, num_Bot.snd.snd.snd.fst, num_Bot.snd.snd.snd.snd, 0)
    else bif t10
     then k (t12.fst, t12.snd.fst, t12.snd.snd.fst, t12.snd.snd.snd.fst, t12.snd.snd.snd.snd, 0)
     else n
   else bif a == 4
    then bif t4
     then k (num_Bot.fst, num_Bot.snd.fst, num_Bot.snd.snd.fst, num_Bot.snd.snd.snd.fst, num_Bot.snd.snd.snd.snd, 0)
     else bif t14
      then k (t16.fst, t16.snd.fst, t16.snd.snd.fst, t16.snd.snd.snd.fst, t16.snd.snd.snd.snd, 0)
      else n
    else bif a == 5
     then bif t4
      then k (num_Bot.fst, num_Bot.snd.fst, num_Bot.snd.snd.fst, num_Bot.snd.snd.snd.fst, num_Bot.snd.snd.snd.snd, 0)
      else bif t18
       then k (t20.fst, t20.snd.fst, t20.snd.snd.fst, t20.snd.snd.snd.fst, t20.snd.snd.snd.snd, 0)
       else n
     else bif a == 6
      then bif t23
       then k (num_Bot.fst, num_Bot.snd.fst, num_Bot.snd.snd.fst, num_Bot.snd.snd.snd.fst, num_Bot.snd.snd.snd.snd, 0)
       else bif t25
        then k (t27.fst, t27.snd.fst, t27.snd.snd.fst, t27.snd.snd.snd.fst, t27.snd.snd.snd.snd, 0)
        else n
      else bif a == 7
       then bif t23
        then k (num_Bot.fst, num_Bot.snd.fst, num_Bot.snd.snd.fst, num_Bot.snd.snd.snd.fst, num_Bot.snd.snd.snd.snd, 0)
        else bif t29
         then k (t31.fst, t31.snd.fst, t31.snd.snd.fst, t31.snd.snd.snd.fst, t31.snd.snd.snd.snd, 0)
         else n
       else k (false, 0, 0, 0, 0, 1)
def num_Apply.c {γ : Type} (n : γ) (k : Bool × Int × Int × Int × Int × Int → γ) (a : Int) (b0 : Bool) (b1 : Int) (b2 : Int) (b3 : Int) (b4 : Int) (c0 : Bool) (c1 : Int) (c2 : Int) (c3 : Int) (c4 : Int) : γ := let t1 := num_Norm b0 b1 b2 b3 b4; let t2 := num_Norm c0 c1 c2 c3 c4; let t3 := bif t2.fst then a != 1 else false; let t4 := bif t1.fst then true else t3; let t5 := num_op1 t1.snd.fst t1.snd.snd.fst t2.snd.fst t2.snd.snd.fst; let t6 := num_op2.ok t1.snd.snd.snd.fst t1.snd.snd.snd.snd t2.snd.snd.snd.fst t2.snd.snd.snd.snd t5.snd.snd; let t7 := num_op2 t1.snd.snd.snd.fst t1.snd.snd.snd.snd t2.snd.snd.snd.fst t2.snd.snd.snd.snd t5.snd.snd; let t8 := num_Make t5.fst t5.snd.fst t7.fst t7.snd; let t9 := A.ival_Add t1.snd.fst t1.snd.snd.fst t2.snd.fst t2.snd.snd.fst; let t10 := B.cong_Add.ok t1.snd.snd.snd.fst t1.snd.snd.snd.snd t2.snd.snd.snd.fst t2.snd.snd.snd.snd t9.snd.snd; let t11 := B.cong_Add t1.snd.snd.snd.fst t1.snd.snd.snd.snd t2.snd.snd.snd.fst t2.snd.snd.snd.snd t9.snd.snd; let t12 := num_Make t9.fst t9.snd.fst t11.fst t11.snd; let t13 := A.ival_Sub t1.snd.fst t1.snd.snd.fst t2.snd.fst t2.snd.snd.fst; let t14 := B.cong_Sub.ok t1.snd.snd.snd.fst t1.snd.snd.snd.snd t2.snd.snd.snd.fst t2.snd.snd.snd.snd t13.snd.snd; let t15 := B.cong_Sub t1.snd.snd.snd.fst t1.snd.snd.snd.snd t2.snd.snd.snd.fst t2.snd.snd.snd.snd t13.snd.snd; let t16 := num_Make t13.fst t13.snd.fst t15.fst t15.snd; let t17 := A.ival_Mul t1.snd.fst t1.snd.snd.fst t2.snd.fst t2.snd.snd.fst; let t18 := B.cong_Mul.ok t1.snd.snd.snd.fst t1.snd.snd.snd.snd t2.snd.snd.snd.fst t2.snd.snd.snd.snd t17.snd.snd; let t19 := B.cong_Mul t1.snd.snd.snd.fst t1.snd.snd.snd.snd t2.snd.snd.snd.fst t2.snd.snd.snd.snd t17.snd.snd; let t20 := num_Make t17.fst t17.snd.fst t19.fst t19.snd; let t21 := num_NonZero t2.fst t2.snd.fst t2.snd.snd.fst t2.snd.snd.snd.fst t2.snd.snd.snd.snd; let t22 := bif t21.fst then a != 1 else false; let t23 := bif t1.fst then true else t22; let t24 := A.ival_Div t1.snd.fst t1.snd.snd.fst t21.snd.fst t21.snd.snd.fst; let t25 := num_op3.ok t1.snd.snd.snd.fst t1.snd.snd.snd.snd t21.snd.snd.snd.fst t21.snd.snd.snd.snd t24.snd.snd; let t26 := num_op3 t1.snd.snd.snd.fst t1.snd.snd.snd.snd t21.snd.snd.snd.fst t21.snd.snd.snd.snd t24.snd.snd; let t27 := num_Make t24.fst t24.snd.fst t26.fst t26.snd; let t28 := A.ival_Rem t1.snd.fst t1.snd.snd.fst t21.snd.fst t21.snd.snd.fst; let t29 := num_op4.ok t1.snd.snd.snd.fst t1.snd.snd.snd.snd t21.snd.snd.snd.fst t21.snd.snd.snd.snd t28.snd.snd; let t30 := num_op4 t1.snd.snd.snd.fst t1.snd.snd.snd.snd t21.snd.snd.snd.fst t21.snd.snd.snd.snd t28.snd.snd; let t31 := num_Make t28.fst t28.snd.fst t30.fst t30.snd; num_Apply.c0 n k a b0 b1 b2 b3 b4 c0 c1 c2 c3 c4 t1 t2 t3 t4 t5 t6 t7 t8 t9 t10 t11 t12 t13 t14 t15 t16 t17 t18 t19 t20 t21 t22 t23 t24 t25 t26 t27 t28 t29 t30 t31
def num_Apply.ok (a : Int) (b0 : Bool) (b1 : Int) (b2 : Int) (b3 : Int) (b4 : Int) (c0 : Bool) (c1 : Int) (c2 : Int) (c3 : Int) (c4 : Int) : Bool := num_Apply.c false (fun _ => true) a b0 b1 b2 b3 b4 c0 c1 c2 c3 c4
def num_Apply (a : Int) (b0 : Bool) (b1 : Int) (b2 : Int) (b3 : Int) (b4 : Int) (c0 : Bool) (c1 : Int) (c2 : Int) (c3 : Int) (c4 : Int) : Bool × Int × Int × Int × Int × Int := num_Apply.c (false, 0, 0, 0, 0, 0) id a b0 b1 b2 b3 b4 c0 c1 c2 c3 c4
def num_Apply.F : FV := mkF (cP (cI .i64) (cP (cA (cP cB (cP (cI .i64) (cP (cI .i64) (cP (cI .u64) (cP (cI .u64) cU)))))) (cP (cA (cP cB (cP (cI .i64) (cP (cI .i64) (cP (cI .u64) (cP (cI .u64) cU)))))) cU))) (fun | (a, ((b0, (b1, (b2, (b3, (b4, ()))))), ((c0, (c1, (c2, (c3, (c4, ()))))), ()))) => num_Apply.ok a b0 b1 b2 b3 b4 c0 c1 c2 c3 c4) (fun | (a, ((b0, (b1, (b2, (b3, (b4, ()))))), ((c0, (c1, (c2, (c3, (c4, ()))))), ()))) => .tuple #[.agg #[.bool (num_Apply a b0 b1 b2 b3 b4 c0 c1 c2 c3 c4).1, .int .i64 (num_Apply a b0 b1 b2 b3 b4 c0 c1 c2 c3 c4).2.1, .int .i64 (num_Apply a b0 b1 b2 b3 b4 c0 c1 c2 c3 c4).2.2.1, .int .u64 (num_Apply a b0 b1 b2 b3 b4 c0 c1 c2 c3 c4).2.2.2.1, .int .u64 (num_Apply a b0 b1 b2 b3 b4 c0 c1 c2 c3 c4).2.2.2.2.1], .int .i64 (num_Apply a b0 b1 b2 b3 b4 c0 c1 c2 c3 c4).2.2.2.2.2])
def L_num_Apply : TL := (16, num_Apply.F) :: L_num_op4
theorem num_Apply.p0 {γ : Type} (k : Bool × Int × Int × Int × Int × Int → γ) (a : Int) (b0 : Bool) (b1 : Int) (b2 : Int) (b3 : Int) (b4 : Int) (c0 : Bool) (c1 : Int) (c2 : Int) (c3 : Int) (c4 : Int) (t1 : Bool × Int × Int × Int × Int) (t2 : Bool × Int × Int × Int × Int) (t3 : Bool) (t4 : Bool) (t5 : Int × Int × Bool) (t6 : Bool) (t7 : Int × Int) (t8 : Bool × Int × Int × Int × Int) (t9 : Int × Int × Bool) (t10 : Bool) (t11 : Int × Int) (t12 : Bool × Int × Int × Int × Int) (t13 : Int × Int × Bool) (t14 : Bool) (t15 : Int × Int) (t16 : Bool × Int × Int × Int × Int) (t17 : Int × Int × Bool) (t18 : Bool) (t19 : Int × Int) (t20 : Bool × Int × Int × Int × Int) (t21 : Bool × Int × Int × Int × Int) (t22 : Bool) (t23 : Bool) (t24 : Int × Int × Bool) (t25 : Bool) (t26 : Int × Int) (t27 : Bool × Int × Int × Int × Int) (t28 : Int × Int × Bool) (t29 : Bool) (t30 : Int × Int) (t31 : Bool × Int × Int × Int × Int) : num_Apply.c0 false (fun _ => true) a b0 b1 b2 b3 b4 c0 c1 c2 c3 c4 t1 t2 t3 t4 t5 t6 t7 t8 t9 t10 t11 t12 t13 t14 t15 t16 t17 t18 t19 t20 t21 t22 t23 t24 t25 t26 t27 t28 t29 t30 t31 = true → num_Apply.c0 none (fun q => some (k q)) a b0 b1 b2 b3 b4 c0 c1 c2 c3 c4 t1 t2 t3 t4 t5 t6 t7 t8 t9 t10 t11 t12 t13 t14 t15 t16 t17 t18 t19 t20 t21 t22 t23 t24 t25 t26 t27 t28 t29 t30 t31 = some (k (num_Apply.c0 (false, 0, 0, 0, 0, 0) id a b0 b1 b2 b3 b4 c0 c1 c2 c3 c4 t1 t2 t3 t4 t5 t6 t7 t8 t9 t10 t11 t12 t13 t14 t15 t16 t17 t18 t19 t20 t21 t22 t23 t24 t25 t26 t27 t28 t29 t30 t31)) := by
  unfold num_Apply.c0; (repeat' (first | (apply pn k) | (exact pn_none _ _) | (exact pn_leaf k _)))
theorem num_Apply.p {γ : Type} (k : Bool × Int × Int × Int × Int × Int → γ) (a : Int) (b0 : Bool) (b1 : Int) (b2 : Int) (b3 : Int) (b4 : Int) (c0 : Bool) (c1 : Int) (c2 : Int) (c3 : Int) (c4 : Int) (h : num_Apply.ok a b0 b1 b2 b3 b4 c0 c1 c2 c3 c4 = true) : num_Apply.c none (fun q => some (k q)) a b0 b1 b2 b3 b4 c0 c1 c2 c3 c4 = some (k (num_Apply a b0 b1 b2 b3 b4 c0 c1 c2 c3 c4)) :=
  let t1 := num_Norm b0 b1 b2 b3 b4; let t2 := num_Norm c0 c1 c2 c3 c4; let t3 := bif t2.fst then a != 1 else false; let t4 := bif t1.fst then true else t3; let t5 := num_op1 t1.snd.fst t1.snd.snd.fst t2.snd.fst t2.snd.snd.fst; let t6 := num_op2.ok t1.snd.snd.snd.fst t1.snd.snd.snd.snd t2.snd.snd.snd.fst t2.snd.snd.snd.snd t5.snd.snd; let t7 := num_op2 t1.snd.snd.snd.fst t1.snd.snd.snd.snd t2.snd.snd.snd.fst t2.snd.snd.snd.snd t5.snd.snd; let t8 := num_Make t5.fst t5.snd.fst t7.fst t7.snd; let t9 := A.ival_Add t1.snd.fst t1.snd.snd.fst t2.snd.fst t2.snd.snd.fst; let t10 := B.cong_Add.ok t1.snd.snd.snd.fst t1.snd.snd.snd.snd t2.snd.snd.snd.fst t2.snd.snd.snd.snd t9.snd.snd; let t11 := B.cong_Add t1.snd.snd.snd.fst t1.snd.snd.snd.snd t2.snd.snd.snd.fst t2.snd.snd.snd.snd t9.snd.snd; let t12 := num_Make t9.fst t9.snd.fst t11.fst t11.snd; let t13 := A.ival_Sub t1.snd.fst t1.snd.snd.fst t2.snd.fst t2.snd.snd.fst; let t14 := B.cong_Sub.ok t1.snd.snd.snd.fst t1.snd.snd.snd.snd t2.snd.snd.snd.fst t2.snd.snd.snd.snd t13.snd.snd; let t15 := B.cong_Sub t1.snd.snd.snd.fst t1.snd.snd.snd.snd t2.snd.snd.snd.fst t2.snd.snd.snd.snd t13.snd.snd; let t16 := num_Make t13.fst t13.snd.fst t15.fst t15.snd; let t17 := A.ival_Mul t1.snd.fst t1.snd.snd.fst t2.snd.fst t2.snd.snd.fst; let t18 := B.cong_Mul.ok t1.snd.snd.snd.fst t1.snd.snd.snd.snd t2.snd.snd.snd.fst t2.snd.snd.snd.snd t17.snd.snd; let t19 := B.cong_Mul t1.snd.snd.snd.fst t1.snd.snd.snd.snd t2.snd.snd.snd.fst t2.snd.snd.snd.snd t17.snd.snd; let t20 := num_Make t17.fst t17.snd.fst t19.fst t19.snd; let t21 := num_NonZero t2.fst t2.snd.fst t2.snd.snd.fst t2.snd.snd.snd.fst t2.snd.snd.snd.snd; let t22 := bif t21.fst then a != 1 else false; let t23 := bif t1.fst then true else t22; let t24 := A.ival_Div t1.snd.fst t1.snd.snd.fst t21.snd.fst t21.snd.snd.fst; let t25 := num_op3.ok t1.snd.snd.snd.fst t1.snd.snd.snd.snd t21.snd.snd.snd.fst t21.snd.snd.snd.snd t24.snd.snd; let t26 := num_op3 t1.snd.snd.snd.fst t1.snd.snd.snd.snd t21.snd.snd.snd.fst t21.snd.snd.snd.snd t24.snd.snd; let t27 := num_Make t24.fst t24.snd.fst t26.fst t26.snd; let t28 := A.ival_Rem t1.snd.fst t1.snd.snd.fst t21.snd.fst t21.snd.snd.fst; let t29 := num_op4.ok t1.snd.snd.snd.fst t1.snd.snd.snd.snd t21.snd.snd.snd.fst t21.snd.snd.snd.snd t28.snd.snd; let t30 := num_op4 t1.snd.snd.snd.fst t1.snd.snd.snd.snd t21.snd.snd.snd.fst t21.snd.snd.snd.snd t28.snd.snd; let t31 := num_Make t28.fst t28.snd.fst t30.fst t30.snd; num_Apply.p0 k a b0 b1 b2 b3 b4 c0 c1 c2 c3 c4 t1 t2 t3 t4 t5 t6 t7 t8 t9 t10 t11 t12 t13 t14 t15 t16 t17 t18 t19 t20 t21 t22 t23 t24 t25 t26 t27 t28 t29 t30 t31 h
theorem num_Apply.r (a : Int) (b0 : Bool) (b1 : Int) (b2 : Int) (b3 : Int) (b4 : Int) (c0 : Bool) (c1 : Int) (c2 : Int) (c3 : Int) (c4 : Int) : runF P G (tab L_num_op4) { merge := true, glue := true } 60 Tryz.f16 [.int .i64 a, .agg #[.bool b0, .int .i64 b1, .int .i64 b2, .int .u64 b3, .int .u64 b4], .agg #[.bool c0, .int .i64 c1, .int .i64 c2, .int .u64 c3, .int .u64 c4]] = num_Apply.c none (fun q => some (.tuple #[.agg #[.bool (q).1, .int .i64 (q).2.1, .int .i64 (q).2.2.1, .int .u64 (q).2.2.2.1, .int .u64 (q).2.2.2.2.1], .int .i64 (q).2.2.2.2.2] : Value)) a b0 b1 b2 b3 b4 c0 c1 c2 c3 c4 := by kernel_rfl
theorem num_Apply.t : TabOK P G (tab L_num_Apply) :=
  TabOK_mkL C num_op4.t Tryz.func16 (by kernel_rfl) { merge := true, glue := true } (fun c _ => LoopsOK_nil c) 60 (by
    rintro ⟨a, ⟨⟨b0, ⟨b1, ⟨b2, ⟨b3, ⟨b4, ⟨⟩⟩⟩⟩⟩⟩, ⟨⟨c0, ⟨c1, ⟨c2, ⟨c3, ⟨c4, ⟨⟩⟩⟩⟩⟩⟩, ⟨⟩⟩⟩⟩ h
    exact (num_Apply.r a b0 b1 b2 b3 b4 c0 c1 c2 c3 c4).trans (num_Apply.p (fun q => (.tuple #[.agg #[.bool (q).1, .int .i64 (q).2.1, .int .i64 (q).2.2.1, .int .u64 (q).2.2.2.1, .int .u64 (q).2.2.2.2.1], .int .i64 (q).2.2.2.2.2] : Value)) a b0 b1 b2 b3 b4 c0 c1 c2 c3 c4 h))
def nref_Bot.c {γ : Type} (k : Bool × Int × Int × Int × Int → γ)  : γ := k (true, 0, 0, 0, 0)
def nref_Bot  : Bool × Int × Int × Int × Int := nref_Bot.c id
def nref_Bot.F : FV := mkF cU (fun _ => true) (fun | () => .agg #[.bool (nref_Bot).1, .int .i64 (nref_Bot).2.1, .int .i64 (nref_Bot).2.2.1, .int .u64 (nref_Bot).2.2.2.1, .int .u64 (nref_Bot).2.2.2.2])
def L_nref_Bot : TL := (24, nref_Bot.F) :: L_num_Apply
theorem nref_Bot.p {γ : Type} (k : Bool × Int × Int × Int × Int → γ)  : nref_Bot.c k  = k (nref_Bot) := by
  unfold nref_Bot nref_Bot.c; (repeat' (first | (apply pc k) | (exact rfl)))
theorem nref_Bot.r  : runF P G (tab L_num_Apply) { merge := true, glue := true } 60 Tryz.f24 [] = nref_Bot.c (fun q => some (.agg #[.bool (q).1, .int .i64 (q).2.1, .int .i64 (q).2.2.1, .int .u64 (q).2.2.2.1, .int .u64 (q).2.2.2.2] : Value))  := by kernel_rfl
theorem nref_Bot.t : TabOK P G (tab L_nref_Bot) :=
  TabOK_mkL C num_Apply.t Tryz.func24 (by kernel_rfl) { merge := true, glue := true } (fun c _ => LoopsOK_nil c) 60 (by
    rintro ⟨⟩ h
    exact (nref_Bot.r ).trans (nref_Bot.p (fun q => some (.agg #[.bool (q).1, .int .i64 (q).2.1, .int .i64 (q).2.2.1, .int .u64 (q).2.2.2.1, .int .u64 (q).2.2.2.2] : Value)) ))
def nref_Const.c0 {γ : Type} (k : Bool × Int × Int × Int × Int → γ) (a : Int) (t1 : Int × Int) : γ := k (false, a, a, t1.fst, t1.snd)
def nref_Const.c {γ : Type} (k : Bool × Int × Int × Int × Int → γ) (a : Int) : γ := let t1 := B.ref_Const a; nref_Const.c0 k a t1
def nref_Const (a : Int) : Bool × Int × Int × Int × Int := nref_Const.c id a
def nref_Const.F : FV := mkF (cP (cI .i64) cU) (fun _ => true) (fun | (a, ()) => .agg #[.bool (nref_Const a).1, .int .i64 (nref_Const a).2.1, .int .i64 (nref_Const a).2.2.1, .int .u64 (nref_Const a).2.2.2.1, .int .u64 (nref_Const a).2.2.2.2])
def L_nref_Const : TL := (28, nref_Const.F) :: L_nref_Bot
theorem nref_Const.p0 {γ : Type} (k : Bool × Int × Int × Int × Int → γ) (a : Int) (t1 : Int × Int) : nref_Const.c0 k a t1 = k (nref_Const.c0 id a t1) := by
  unfold nref_Const.c0; (repeat' (first | (apply pc k) | (exact rfl)))
theorem nref_Const.p {γ : Type} (k : Bool × Int × Int × Int × Int → γ) (a : Int) : nref_Const.c k a = k (nref_Const a) :=
  let t1 := B.ref_Const a; nref_Const.p0 k a t1
theorem nref_Const.r (a : Int) : runF P G (tab L_nref_Bot) { merge := true, glue := true } 60 Tryz.f28 [.int .i64 a] = nref_Const.c (fun q => some (.agg #[.bool (q).1, .int .i64 (q).2.1, .int .i64 (q).2.2.1, .int .u64 (q).2.2.2.1, .int .u64 (q).2.2.2.2] : Value)) a := by kernel_rfl
theorem nref_Const.t : TabOK P G (tab L_nref_Const) :=
  TabOK_mkL C nref_Bot.t Tryz.func28 (by kernel_rfl) { merge := true, glue := true } (fun c _ => LoopsOK_nil c) 60 (by
    rintro ⟨a, ⟨⟩⟩ h
    exact (nref_Const.r a).trans (nref_Const.p (fun q => some (.agg #[.bool (q).1, .int .i64 (q).2.1, .int .i64 (q).2.2.1, .int .u64 (q).2.2.2.1, .int .u64 (q).2.2.2.2] : Value)) a))
def nref_Make.c0 {γ : Type} (n : γ) (k : Bool × Int × Int × Int × Int → γ) (a0 : Int) (a1 : Int) (b0 : Int) (b1 : Int) (t1 : Bool) (t2 : Bool) (t3 : Bool) (t4 : Int × Bool) (t5 : Int × Bool) (t6 : Bool) (t7 : Bool) (t8 : Bool × Int × Int × Int × Int) (t9 : Int × Int) : γ := bif t1
  then k (nref_Bot.fst, nref_Bot.snd.fst, nref_Bot.snd.snd.fst, nref_Bot.snd.snd.snd.fst, nref_Bot.snd.snd.snd.snd)
  else bif t2
   then bif t3
    then bif t7
     then k (nref_Bot.fst, nref_Bot.snd.fst, nref_Bot.snd.snd.fst, nref_Bot.snd.snd.snd.fst, nref_Bot.snd.snd.snd.snd)
     else bif t4.fst == t5.fst
      then k (t8.fst, t8.snd.fst, t8.snd.snd.fst, t8.snd.snd.snd.fst, t8.snd.snd.snd.snd)
      else k (false, t4.fst, t5.fst, t9.fst, t9.snd)
    else n
   else n
def nref_Make.c {γ : Type} (n : γ) (k : Bool × Int × Int × Int × Int → γ) (a0 : Int) (a1 : Int) (b0 : Int) (b1 : Int) : γ := let t1 := A.ref_Empty a0 a1; let t2 := B.ref_Up.ok b0 b1 a0; let t3 := B.ref_Down.ok b0 b1 a1; let t4 := B.ref_Up b0 b1 a0; let t5 := B.ref_Down b0 b1 a1; let t6 := bif !t4.snd then true else !t5.snd; let t7 := bif t6 then true else decide (t4.fst > t5.fst); let t8 := nref_Const t4.fst; let t9 := B.ref_Norm b0 b1; nref_Make.c0 n k a0 a1 b0 b1 t1 t2 t3 t4 t5 t6 t7 t8 t9
def nref_Make.ok (a0 : Int) (a1 : Int) (b0 : Int) (b1 : Int) : Bool := nref_Make.c false (fun _ => true) a0 a1 b0 b1
def nref_Make (a0 : Int) (a1 : Int) (b0 : Int) (b1 : Int) : Bool × Int × Int × Int × Int := nref_Make.c (false, 0, 0, 0, 0) id a0 a1 b0 b1
def nref_Make.F : FV := mkF (cP (cA (cP (cI .i64) (cP (cI .i64) cU))) (cP (cA (cP (cI .u64) (cP (cI .u64) cU))) cU)) (fun | ((a0, (a1, ())), ((b0, (b1, ())), ())) => nref_Make.ok a0 a1 b0 b1) (fun | ((a0, (a1, ())), ((b0, (b1, ())), ())) => .agg #[.bool (nref_Make a0 a1 b0 b1).1, .int .i64 (nref_Make a0 a1 b0 b1).2.1, .int .i64 (nref_Make a0 a1 b0 b1).2.2.1, .int .u64 (nref_Make a0 a1 b0 b1).2.2.2.1, .int .u64 (nref_Make a0 a1 b0 b1).2.2.2.2])
def L_nref_Make : TL := (26, nref_Make.F) :: L_nref_Const
theorem nref_Make.p0 {γ : Type} (k : Bool × Int × Int × Int × Int → γ) (a0 : Int) (a1 : Int) (b0 : Int) (b1 : Int) (t1 : Bool) (t2 : Bool) (t3 : Bool) (t4 : Int × Bool) (t5 : Int × Bool) (t6 : Bool) (t7 : Bool) (t8 : Bool × Int × Int × Int × Int) (t9 : Int × Int) : nref_Make.c0 false (fun _ => true) a0 a1 b0 b1 t1 t2 t3 t4 t5 t6 t7 t8 t9 = true → nref_Make.c0 none (fun q => some (k q)) a0 a1 b0 b1 t1 t2 t3 t4 t5 t6 t7 t8 t9 = some (k (nref_Make.c0 (false, 0, 0, 0, 0) id a0 a1 b0 b1 t1 t2 t3 t4 t5 t6 t7 t8 t9)) := by
  unfold nref_Make.c0; (repeat' (first | (apply pn k) | (exact pn_none _ _) | (exact pn_leaf k _)))
theorem nref_Make.p {γ : Type} (k : Bool × Int × Int × Int × Int → γ) (a0 : Int) (a1 : Int) (b0 : Int) (b1 : Int) (h : nref_Make.ok a0 a1 b0 b1 = true) : nref_Make.c none (fun q => some (k q)) a0 a1 b0 b1 = some (k (nref_Make a0 a1 b0 b1)) :=
  let t1 := A.ref_Empty a0 a1; let t2 := B.ref_Up.ok b0 b1 a0; let t3 := B.ref_Down.ok b0 b1 a1; let t4 := B.ref_Up b0 b1 a0; let t5 := B.ref_Down b0 b1 a1; let t6 := bif !t4.snd then true else !t5.snd; let t7 := bif t6 then true else decide (t4.fst > t5.fst); let t8 := nref_Const t4.fst; let t9 := B.ref_Norm b0 b1; nref_Make.p0 k a0 a1 b0 b1 t1 t2 t3 t4 t5 t6 t7 t8 t9 h
theorem nref_Make.r (a0 : Int) (a1 : Int) (b0 : Int) (b1 : Int) : runF P G (tab L_nref_Const) { merge := true, glue := true } 60 Tryz.f26 [.agg #[.int .i64 a0, .int .i64 a1], .agg #[.int .u64 b0, .int .u64 b1]] = nref_Make.c none (fun q => some (.agg #[.bool (q).1, .int .i64 (q).2.1, .int .i64 (q).2.2.1, .int .u64 (q).2.2.2.1, .int .u64 (q).2.2.2.2] : Value)) a0 a1 b0 b1 := by kernel_rfl
theorem nref_Make.t : TabOK P G (tab L_nref_Make) :=
  TabOK_mkL C nref_Const.t Tryz.func26 (by kernel_rfl) { merge := true, glue := true } (fun c _ => LoopsOK_nil c) 60 (by
    rintro ⟨⟨a0, ⟨a1, ⟨⟩⟩⟩, ⟨⟨b0, ⟨b1, ⟨⟩⟩⟩, ⟨⟩⟩⟩ h
    exact (nref_Make.r a0 a1 b0 b1).trans (nref_Make.p (fun q => (.agg #[.bool (q).1, .int .i64 (q).2.1, .int .i64 (q).2.2.1, .int .u64 (q).2.2.2.1, .int .u64 (q).2.2.2.2] : Value)) a0 a1 b0 b1 h))
def nref_Norm.c0 {γ : Type} (n : γ) (k : Bool × Int × Int × Int × Int → γ) (a0 : Bool) (a1 : Int) (a2 : Int) (a3 : Int) (a4 : Int) (t1 : Bool) (t2 : Bool × Int × Int × Int × Int) : γ := bif a0
  then k (nref_Bot.fst, nref_Bot.snd.fst, nref_Bot.snd.snd.fst, nref_Bot.snd.snd.snd.fst, nref_Bot.snd.snd.snd.snd)
  else bif t1
   then k (t2.fst, t2.snd.fst, t2.snd.snd.fst, t2.snd.snd.snd.fst, t2.snd.snd.snd.snd)
   else n
def nref_Norm.c {γ : Type} (n : γ) (k : Bool × Int × Int × Int × Int → γ) (a0 : Bool) (a1 : Int) (a2 : Int) (a3 : Int) (a4 : Int) : γ := let t1 := nref_Make.ok a1 a2 a3 a4; let t2 := nref_Make a1 a2 a3 a4; nref_Norm.c0 n k a0 a1 a2 a3 a4 t1 t2
def nref_Norm.ok (a0 : Bool) (a1 : Int) (a2 : Int) (a3 : Int) (a4 : Int) : Bool := nref_Norm.c false (fun _ => true) a0 a1 a2 a3 a4
def nref_Norm (a0 : Bool) (a1 : Int) (a2 : Int) (a3 : Int) (a4 : Int) : Bool × Int × Int × Int × Int := nref_Norm.c (false, 0, 0, 0, 0) id a0 a1 a2 a3 a4
def nref_Norm.F : FV := mkF (cP (cA (cP cB (cP (cI .i64) (cP (cI .i64) (cP (cI .u64) (cP (cI .u64) cU)))))) cU) (fun | ((a0, (a1, (a2, (a3, (a4, ()))))), ()) => nref_Norm.ok a0 a1 a2 a3 a4) (fun | ((a0, (a1, (a2, (a3, (a4, ()))))), ()) => .agg #[.bool (nref_Norm a0 a1 a2 a3 a4).1, .int .i64 (nref_Norm a0 a1 a2 a3 a4).2.1, .int .i64 (nref_Norm a0 a1 a2 a3 a4).2.2.1, .int .u64 (nref_Norm a0 a1 a2 a3 a4).2.2.2.1, .int .u64 (nref_Norm a0 a1 a2 a3 a4).2.2.2.2])
def L_nref_Norm : TL := (27, nref_Norm.F) :: L_nref_Make
theorem nref_Norm.p0 {γ : Type} (k : Bool × Int × Int × Int × Int → γ) (a0 : Bool) (a1 : Int) (a2 : Int) (a3 : Int) (a4 : Int) (t1 : Bool) (t2 : Bool × Int × Int × Int × Int) : nref_Norm.c0 false (fun _ => true) a0 a1 a2 a3 a4 t1 t2 = true → nref_Norm.c0 none (fun q => some (k q)) a0 a1 a2 a3 a4 t1 t2 = some (k (nref_Norm.c0 (false, 0, 0, 0, 0) id a0 a1 a2 a3 a4 t1 t2)) := by
  unfold nref_Norm.c0; (repeat' (first | (apply pn k) | (exact pn_none _ _) | (exact pn_leaf k _)))
theorem nref_Norm.p {γ : Type} (k : Bool × Int × Int × Int × Int → γ) (a0 : Bool) (a1 : Int) (a2 : Int) (a3 : Int) (a4 : Int) (h : nref_Norm.ok a0 a1 a2 a3 a4 = true) : nref_Norm.c none (fun q => some (k q)) a0 a1 a2 a3 a4 = some (k (nref_Norm a0 a1 a2 a3 a4)) :=
  let t1 := nref_Make.ok a1 a2 a3 a4; let t2 := nref_Make a1 a2 a3 a4; nref_Norm.p0 k a0 a1 a2 a3 a4 t1 t2 h
theorem nref_Norm.r (a0 : Bool) (a1 : Int) (a2 : Int) (a3 : Int) (a4 : Int) : runF P G (tab L_nref_Make) { merge := true, glue := true } 60 Tryz.f27 [.agg #[.bool a0, .int .i64 a1, .int .i64 a2, .int .u64 a3, .int .u64 a4]] = nref_Norm.c none (fun q => some (.agg #[.bool (q).1, .int .i64 (q).2.1, .int .i64 (q).2.2.1, .int .u64 (q).2.2.2.1, .int .u64 (q).2.2.2.2] : Value)) a0 a1 a2 a3 a4 := by kernel_rfl
theorem nref_Norm.t : TabOK P G (tab L_nref_Norm) :=
  TabOK_mkL C nref_Make.t Tryz.func27 (by kernel_rfl) { merge := true, glue := true } (fun c _ => LoopsOK_nil c) 60 (by
    rintro ⟨⟨a0, ⟨a1, ⟨a2, ⟨a3, ⟨a4, ⟨⟩⟩⟩⟩⟩⟩, ⟨⟩⟩ h
    exact (nref_Norm.r a0 a1 a2 a3 a4).trans (nref_Norm.p (fun q => (.agg #[.bool (q).1, .int .i64 (q).2.1, .int .i64 (q).2.2.1, .int .u64 (q).2.2.2.1, .int .u64 (q).2.2.2.2] : Value)) a0 a1 a2 a3 a4 h))
def nref_NonZero.c0 {γ : Type} (n : γ) (k : Bool × Int × Int × Int × Int → γ) (a0 : Bool) (a1 : Int) (a2 : Int) (a3 : Int) (a4 : Int) (t1 : Bool) (t2 : Bool × Int × Int × Int × Int) (t3 : Bool × Int × Int × Int × Int) (t4 : Bool) (t5 : Bool × Int × Int × Int × Int) (t6 : Bool) (t7 : Bool × Int × Int × Int × Int) (t8 : Bool) (t9 : Bool × Int × Int × Int × Int) : γ := bif t1
  then bif t2.snd.fst == 0
   then bif t2.snd.snd.fst == 0
    then bif t2.fst
     then k (t2.fst, t2.snd.fst, t2.snd.snd.fst, t2.snd.snd.snd.fst, t2.snd.snd.snd.snd)
     else k (t3.fst, t3.snd.fst, t3.snd.snd.fst, t3.snd.snd.snd.fst, t3.snd.snd.snd.snd)
    else bif t2.fst
     then k (t2.fst, t2.snd.fst, t2.snd.snd.fst, t2.snd.snd.snd.fst, t2.snd.snd.snd.snd)
     else bif t4
      then k (t5.fst, t5.snd.fst, t5.snd.snd.fst, t5.snd.snd.snd.fst, t5.snd.snd.snd.snd)
      else n
   else bif t2.snd.snd.fst == 0
    then bif t2.fst
     then k (t2.fst, t2.snd.fst, t2.snd.snd.fst, t2.snd.snd.snd.fst, t2.snd.snd.snd.snd)
     else bif t6
      then k (t7.fst, t7.snd.fst, t7.snd.snd.fst, t7.snd.snd.snd.fst, t7.snd.snd.snd.snd)
      else n
    else bif t2.fst
     then k (t2.fst, t2.snd.fst, t2.snd.snd.fst, t2.snd.snd.snd.fst, t2.snd.snd.snd.snd)
     else bif t8
      then k (t9.fst, t9.snd.fst, t9.snd.snd.fst, t9.snd.snd.snd.fst, t9.snd.snd.snd.snd)
      else n
  else n
def nref_NonZero.c {γ : Type} (n : γ) (k : Bool × Int × Int × Int × Int → γ) (a0 : Bool) (a1 : Int) (a2 : Int) (a3 : Int) (a4 : Int) : γ := let t1 := nref_Norm.ok a0 a1 a2 a3 a4; let t2 := nref_Norm a0 a1 a2 a3 a4; let t3 := nref_Make 1 (-1) t2.snd.snd.snd.fst t2.snd.snd.snd.snd; let t4 := nref_Make.ok 1 t2.snd.snd.fst t2.snd.snd.snd.fst t2.snd.snd.snd.snd; let t5 := nref_Make 1 t2.snd.snd.fst t2.snd.snd.snd.fst t2.snd.snd.snd.snd; let t6 := nref_Make.ok t2.snd.fst (-1) t2.snd.snd.snd.fst t2.snd.snd.snd.snd; let t7 := nref_Make t2.snd.fst (-1) t2.snd.snd.snd.fst t2.snd.snd.snd.snd; let t8 := nref_Make.ok t2.snd.fst t2.snd.snd.fst t2.snd.snd.snd.fst t2.snd.snd.snd.snd; let t9 := nref_Make t2.snd.fst t2.snd.snd.fst t2.snd.snd.snd.fst t2.snd.snd.snd.snd; nref_NonZero.c0 n k a0 a1 a2 a3 a4 t1 t2 t3 t4 t5 t6 t7 t8 t9
def nref_NonZero.ok (a0 : Bool) (a1 : Int) (a2 : Int) (a3 : Int) (a4 : Int) : Bool := nref_NonZero.c false (fun _ => true) a0 a1 a2 a3 a4
def nref_NonZero (a0 : Bool) (a1 : Int) (a2 : Int) (a3 : Int) (a4 : Int) : Bool × Int × Int × Int × Int := nref_NonZero.c (false, 0, 0, 0, 0) id a0 a1 a2 a3 a4
def nref_NonZero.F : FV := mkF (cP (cA (cP cB (cP (cI .i64) (cP (cI .i64) (cP (cI .u64) (cP (cI .u64) cU)))))) cU) (fun | ((a0, (a1, (a2, (a3, (a4, ()))))), ()) => nref_NonZero.ok a0 a1 a2 a3 a4) (fun | ((a0, (a1, (a2, (a3, (a4, ()))))), ()) => .agg #[.bool (nref_NonZero a0 a1 a2 a3 a4).1, .int .i64 (nref_NonZero a0 a1 a2 a3 a4).2.1, .int .i64 (nref_NonZero a0 a1 a2 a3 a4).2.2.1, .int .u64 (nref_NonZero a0 a1 a2 a3 a4).2.2.2.1, .int .u64 (nref_NonZero a0 a1 a2 a3 a4).2.2.2.2])
def L_nref_NonZero : TL := (36, nref_NonZero.F) :: L_nref_Norm
theorem nref_NonZero.p0 {γ : Type} (k : Bool × Int × Int × Int × Int → γ) (a0 : Bool) (a1 : Int) (a2 : Int) (a3 : Int) (a4 : Int) (t1 : Bool) (t2 : Bool × Int × Int × Int × Int) (t3 : Bool × Int × Int × Int × Int) (t4 : Bool) (t5 : Bool × Int × Int × Int × Int) (t6 : Bool) (t7 : Bool × Int × Int × Int × Int) (t8 : Bool) (t9 : Bool × Int × Int × Int × Int) : nref_NonZero.c0 false (fun _ => true) a0 a1 a2 a3 a4 t1 t2 t3 t4 t5 t6 t7 t8 t9 = true → nref_NonZero.c0 none (fun q => some (k q)) a0 a1 a2 a3 a4 t1 t2 t3 t4 t5 t6 t7 t8 t9 = some (k (nref_NonZero.c0 (false, 0, 0, 0, 0) id a0 a1 a2 a3 a4 t1 t2 t3 t4 t5 t6 t7 t8 t9)) := by
  unfold nref_NonZero.c0; (repeat' (first | (apply pn k) | (exact pn_none _ _) | (exact pn_leaf k _)))
theorem nref_NonZero.p {γ : Type} (k : Bool × Int × Int × Int × Int → γ) (a0 : Bool) (a1 : Int) (a2 : Int) (a3 : Int) (a4 : Int) (h : nref_NonZero.ok a0 a1 a2 a3 a4 = true) : nref_NonZero.c none (fun q => some (k q)) a0 a1 a2 a3 a4 = some (k (nref_NonZero a0 a1 a2 a3 a4)) :=
  let t1 := nref_Norm.ok a0 a1 a2 a3 a4; let t2 := nref_Norm a0 a1 a2 a3 a4; let t3 := nref_Make 1 (-1) t2.snd.snd.snd.fst t2.snd.snd.snd.snd; let t4 := nref_Make.ok 1 t2.snd.snd.fst t2.snd.snd.snd.fst t2.snd.snd.snd.snd; let t5 := nref_Make 1 t2.snd.snd.fst t2.snd.snd.snd.fst t2.snd.snd.snd.snd; let t6 := nref_Make.ok t2.snd.fst (-1) t2.snd.snd.snd.fst t2.snd.snd.snd.snd; let t7 := nref_Make t2.snd.fst (-1) t2.snd.snd.snd.fst t2.snd.snd.snd.snd; let t8 := nref_Make.ok t2.snd.fst t2.snd.snd.fst t2.snd.snd.snd.fst t2.snd.snd.snd.snd; let t9 := nref_Make t2.snd.fst t2.snd.snd.fst t2.snd.snd.snd.fst t2.snd.snd.snd.snd; nref_NonZero.p0 k a0 a1 a2 a3 a4 t1 t2 t3 t4 t5 t6 t7 t8 t9 h
theorem nref_NonZero.r (a0 : Bool) (a1 : Int) (a2 : Int) (a3 : Int) (a4 : Int) : runF P G (tab L_nref_Norm) { merge := true, glue := true } 60 Tryz.f36 [.agg #[.bool a0, .int .i64 a1, .int .i64 a2, .int .u64 a3, .int .u64 a4]] = nref_NonZero.c none (fun q => some (.agg #[.bool (q).1, .int .i64 (q).2.1, .int .i64 (q).2.2.1, .int .u64 (q).2.2.2.1, .int .u64 (q).2.2.2.2] : Value)) a0 a1 a2 a3 a4 := by kernel_rfl
theorem nref_NonZero.t : TabOK P G (tab L_nref_NonZero) :=
  TabOK_mkL C nref_Norm.t Tryz.func36 (by kernel_rfl) { merge := true, glue := true } (fun c _ => LoopsOK_nil c) 60 (by
    rintro ⟨⟨a0, ⟨a1, ⟨a2, ⟨a3, ⟨a4, ⟨⟩⟩⟩⟩⟩⟩, ⟨⟩⟩ h
    exact (nref_NonZero.r a0 a1 a2 a3 a4).trans (nref_NonZero.p (fun q => (.agg #[.bool (q).1, .int .i64 (q).2.1, .int .i64 (q).2.2.1, .int .u64 (q).2.2.2.1, .int .u64 (q).2.2.2.2] : Value)) a0 a1 a2 a3 a4 h))
def nref_Apply.c0 {γ : Type} (n : γ) (k : Bool × Int × Int × Int × Int × Int → γ) (a : Int) (b0 : Bool) (b1 : Int) (b2 : Int) (b3 : Int) (b4 : Int) (c0 : Bool) (c1 : Int) (c2 : Int) (c3 : Int) (c4 : Int) (t1 : Bool) (t2 : Bool) (t3 : Bool) (t4 : Bool) (t5 : Bool) (t6 : Bool) (t7 : Bool) (t8 : Bool × Int × Int × Int × Int) (t9 : Bool × Int × Int × Int × Int) (t10 : Bool) (t11 : Int) (t12 : Int) (t13 : Int) (t14 : Int) (t15 : Bool) (t16 : Bool) (t17 : Bool) (t18 : Bool × Int × Int × Int × Int) (t19 : Bool × Int × Int × Int × Int) (t20 : Bool) (t21 : Bool) (t22 : Int × Int × Bool) (t23 : Bool) (t24 : Int × Int) (t25 : Bool) (t26 : Bool × Int × Int × Int × Int) (t27 : Int) (t28 : Int) (t29 : Int) (t30 : Int) (t31 : Int × Int × Bool) (t32 : Bool) (t33 : Int × Int) (t34 : Bool) (t35 : Bool × Int × Int × Int × Int) (t36 : Int × Int × Bool) (t37 : Bool) (t38 : Int × Int) (t39 : Bool) (t40 : Bool × Int × Int × Int × Int) (t41 : Int × Int × Bool) (t42 : Bool) (t43 : Int × Int) (t44 : Bool) (t45 : Bool × Int × Int × Int × Int) (t46 : Bool) (t47 : Bool) (t48 : Int × Int × Bool) (t49 : Int × Int) (t50 : Bool) (t51 : Bool × Int × Int × Int × Int) (t52 : Bool) (t53 : Bool) (t54 : Int × Int × Bool) (t55 : Int × Int) (t56 : Bool) (t57 : Bool × Int × Int × Int × Int) : γ := bif t5
  then k (false, 0, 0, 0, 0, 1)
  else bif t6
   then bif t7
    then bif t15 && true && true || t17
     then bif t21
      then k (nref_Bot.fst, nref_Bot.snd.fst, nref_Bot.snd.snd.fst, nref_Bot.snd.snd.snd.fst, nref_Bot.snd.snd.snd.snd, 0)
      else bif a == 1
       then bif t23
        then bif t25
         then k (t26.fst, t26.snd.fst, t26.snd.snd.fst, t26.snd.snd.snd.fst, t26.snd.snd.snd.snd, 0)
         else n
        else n
       else bif a == 3
        then bif t32
         then bif t34
          then k (t35.fst, t35.snd.fst, t35.snd.snd.fst, t35.snd.snd.snd.fst, t35.snd.snd.snd.snd, 0)
          else n
         else n
        else bif a == 4
         then bif t37
          then bif t39
           then k (t40.fst, t40.snd.fst, t40.snd.snd.fst, t40.snd.snd.snd.fst, t40.snd.snd.snd.snd, 0)
           else n
          else n
         else bif a == 5
          then bif t42
           then bif t44
            then k (t45.fst, t45.snd.fst, t45.snd.snd.fst, t45.snd.snd.snd.fst, t45.snd.snd.snd.snd, 0)
            else n
           else n
          else bif a == 6
           then bif t46
            then bif t47
             then bif t50
              then k (t51.fst, t51.snd.fst, t51.snd.snd.fst, t51.snd.snd.snd.fst, t51.snd.snd.snd.snd, 0)
              else n
             else n
            else n
           else bif t52
            then bif t53
             then bif t56
              then k (t57.fst, t57.snd.fst, t57.snd.snd.fst, t57.snd.snd.snd.fst, t57.snd.snd.snd.snd, 0)
              else n
             else n
            else n
     else n
    else n
   else n
def nref_Apply.c {γ : Type} (n : γ) (k : Bool × Int × Int × Int × Int × Int → γ) (a : Int) (b0 : Bool) (b1 : Int) (b2 : Int) (b3 : Int) (b4 : Int) (c0 : Bool) (c1 : Int) (c2 : Int) (c3 : Int) (c4 : Int) : γ := let t1 := bif a != 1 then a != 3 else false; let t2 := bif t1 then a != 4 else false; let t3 := bif t2 then a != 5 else false; let t4 := bif t3 then a != 6 else false; let t5 := bif t4 then a != 7 else false; let t6 := nref_Norm.ok b0 b1 b2 b3 b4; let t7 := nref_Norm.ok c0 c1 c2 c3 c4; let t8 := nref_Const 0; let t9 := nref_Norm c0 c1 c2 c3 c4; let t10 := bif a == 1 then t8.fst else t9.fst; let t11 := bif a == 1 then t8.snd.fst else t9.snd.fst; let t12 := bif a == 1 then t8.snd.snd.fst else t9.snd.snd.fst; let t13 := bif a == 1 then t8.snd.snd.snd.fst else t9.snd.snd.snd.fst; let t14 := bif a == 1 then t8.snd.snd.snd.snd else t9.snd.snd.snd.snd; let t15 := nref_NonZero.ok t10 t11 t12 t13 t14; let t16 := bif a == 6 then true else a == 7; let t17 := bif t16 then t15 && true else true; let t18 := nref_Norm b0 b1 b2 b3 b4; let t19 := nref_NonZero t10 t11 t12 t13 t14; let t20 := bif t16 then t19.fst else t10; let t21 := bif t18.fst then true else t20; let t22 := A.ref_Neg t18.snd.fst t18.snd.snd.fst; let t23 := B.ref_Neg.ok t18.snd.snd.snd.fst t18.snd.snd.snd.snd t22.snd.snd; let t24 := B.ref_Neg t18.snd.snd.snd.fst t18.snd.snd.snd.snd t22.snd.snd; let t25 := nref_Make.ok t22.fst t22.snd.fst t24.fst t24.snd; let t26 := nref_Make t22.fst t22.snd.fst t24.fst t24.snd; let t27 := bif t16 then t19.snd.snd.snd.fst else t13; let t28 := bif t16 then t19.snd.snd.snd.snd else t14; let t29 := bif t16 then t19.snd.fst else t11; let t30 := bif t16 then t19.snd.snd.fst else t12; let t31 := A.ref_Add t18.snd.fst t18.snd.snd.fst t29 t30; let t32 := B.ref_Add.ok t18.snd.snd.snd.fst t18.snd.snd.snd.snd t27 t28 t31.snd.snd; let t33 := B.ref_Add t18.snd.snd.snd.fst t18.snd.snd.snd.snd t27 t28 t31.snd.snd; let t34 := nref_Make.ok t31.fst t31.snd.fst t33.fst t33.snd; let t35 := nref_Make t31.fst t31.snd.fst t33.fst t33.snd; let t36 := A.ref_Sub t18.snd.fst t18.snd.snd.fst t29 t30; let t37 := B.ref_Sub.ok t18.snd.snd.snd.fst t18.snd.snd.snd.snd t27 t28 t36.snd.snd; let t38 := B.ref_Sub t18.snd.snd.snd.fst t18.snd.snd.snd.snd t27 t28 t36.snd.snd; let t39 := nref_Make.ok t36.fst t36.snd.fst t38.fst t38.snd; let t40 := nref_Make t36.fst t36.snd.fst t38.fst t38.snd; let t41 := A.ref_Mul t18.snd.fst t18.snd.snd.fst t29 t30; let t42 := B.ref_Mul.ok t18.snd.snd.snd.fst t18.snd.snd.snd.snd t27 t28 t41.snd.snd; let t43 := B.ref_Mul t18.snd.snd.snd.fst t18.snd.snd.snd.snd t27 t28 t41.snd.snd; let t44 := nref_Make.ok t41.fst t41.snd.fst t43.fst t43.snd; let t45 := nref_Make t41.fst t41.snd.fst t43.fst t43.snd; let t46 := A.ref_Div.ok t18.snd.fst t18.snd.snd.fst t29 t30; let t47 := B.ref_Div.ok t18.snd.snd.snd.fst t18.snd.snd.snd.snd t27 t28; let t48 := A.ref_Div t18.snd.fst t18.snd.snd.fst t29 t30; let t49 := B.ref_Div t18.snd.snd.snd.fst t18.snd.snd.snd.snd t27 t28; let t50 := nref_Make.ok t48.fst t48.snd.fst t49.fst t49.snd; let t51 := nref_Make t48.fst t48.snd.fst t49.fst t49.snd; let t52 := A.ref_Rem.ok t18.snd.fst t18.snd.snd.fst t29 t30; let t53 := B.ref_Rem.ok t18.snd.snd.snd.fst t18.snd.snd.snd.snd t27 t28; let t54 := A.ref_Rem t18.snd.fst t18.snd.snd.fst t29 t30; let t55 := B.ref_Rem t18.snd.snd.snd.fst t18.snd.snd.snd.snd t27 t28; let t56 := nref_Make.ok t54.fst t54.snd.fst t55.fst t55.snd; let t57 := nref_Make t54.fst t54.snd.fst t55.fst t55.snd; nref_Apply.c0 n k a b0 b1 b2 b3 b4 c0 c1 c2 c3 c4 t1 t2 t3 t4 t5 t6 t7 t8 t9 t10 t11 t12 t13 t14 t15 t16 t17 t18 t19 t20 t21 t22 t23 t24 t25 t26 t27 t28 t29 t30 t31 t32 t33 t34 t35 t36 t37 t38 t39 t40 t41 t42 t43 t44 t45 t46 t47 t48 t49 t50 t51 t52 t53 t54 t55 t56 t57
def nref_Apply.ok (a : Int) (b0 : Bool) (b1 : Int) (b2 : Int) (b3 : Int) (b4 : Int) (c0 : Bool) (c1 : Int) (c2 : Int) (c3 : Int) (c4 : Int) : Bool := nref_Apply.c false (fun _ => true) a b0 b1 b2 b3 b4 c0 c1 c2 c3 c4
def nref_Apply (a : Int) (b0 : Bool) (b1 : Int) (b2 : Int) (b3 : Int) (b4 : Int) (c0 : Bool) (c1 : Int) (c2 : Int) (c3 : Int) (c4 : Int) : Bool × Int × Int × Int × Int × Int := nref_Apply.c (false, 0, 0, 0, 0, 0) id a b0 b1 b2 b3 b4 c0 c1 c2 c3 c4
def nref_Apply.F : FV := mkF (cP (cI .i64) (cP (cA (cP cB (cP (cI .i64) (cP (cI .i64) (cP (cI .u64) (cP (cI .u64) cU)))))) (cP (cA (cP cB (cP (cI .i64) (cP (cI .i64) (cP (cI .u64) (cP (cI .u64) cU)))))) cU))) (fun | (a, ((b0, (b1, (b2, (b3, (b4, ()))))), ((c0, (c1, (c2, (c3, (c4, ()))))), ()))) => nref_Apply.ok a b0 b1 b2 b3 b4 c0 c1 c2 c3 c4) (fun | (a, ((b0, (b1, (b2, (b3, (b4, ()))))), ((c0, (c1, (c2, (c3, (c4, ()))))), ()))) => .tuple #[.agg #[.bool (nref_Apply a b0 b1 b2 b3 b4 c0 c1 c2 c3 c4).1, .int .i64 (nref_Apply a b0 b1 b2 b3 b4 c0 c1 c2 c3 c4).2.1, .int .i64 (nref_Apply a b0 b1 b2 b3 b4 c0 c1 c2 c3 c4).2.2.1, .int .u64 (nref_Apply a b0 b1 b2 b3 b4 c0 c1 c2 c3 c4).2.2.2.1, .int .u64 (nref_Apply a b0 b1 b2 b3 b4 c0 c1 c2 c3 c4).2.2.2.2.1], .int .i64 (nref_Apply a b0 b1 b2 b3 b4 c0 c1 c2 c3 c4).2.2.2.2.2])
def L_nref_Apply : TL := (41, nref_Apply.F) :: L_nref_NonZero
theorem nref_Apply.p0 {γ : Type} (k : Bool × Int × Int × Int × Int × Int → γ) (a : Int) (b0 : Bool) (b1 : Int) (b2 : Int) (b3 : Int) (b4 : Int) (c0 : Bool) (c1 : Int) (c2 : Int) (c3 : Int) (c4 : Int) (t1 : Bool) (t2 : Bool) (t3 : Bool) (t4 : Bool) (t5 : Bool) (t6 : Bool) (t7 : Bool) (t8 : Bool × Int × Int × Int × Int) (t9 : Bool × Int × Int × Int × Int) (t10 : Bool) (t11 : Int) (t12 : Int) (t13 : Int) (t14 : Int) (t15 : Bool) (t16 : Bool) (t17 : Bool) (t18 : Bool × Int × Int × Int × Int) (t19 : Bool × Int × Int × Int × Int) (t20 : Bool) (t21 : Bool) (t22 : Int × Int × Bool) (t23 : Bool) (t24 : Int × Int) (t25 : Bool) (t26 : Bool × Int × Int × Int × Int) (t27 : Int) (t28 : Int) (t29 : Int) (t30 : Int) (t31 : Int × Int × Bool) (t32 : Bool) (t33 : Int × Int) (t34 : Bool) (t35 : Bool × Int × Int × Int × Int) (t36 : Int × Int × Bool) (t37 : Bool) (t38 : Int × Int) (t39 : Bool) (t40 : Bool × Int × Int × Int × Int) (t41 : Int × Int × Bool) (t42 : Bool) (t43 : Int × Int) (t44 : Bool) (t45 : Bool × Int × Int × Int × Int) (t46 : Bool) (t47 : Bool) (t48 : Int × Int × Bool) (t49 : Int × Int) (t50 : Bool) (t51 : Bool × Int × Int × Int × Int) (t52 : Bool) (t53 : Bool) (t54 : Int × Int × Bool) (t55 : Int × Int) (t56 : Bool) (t57 : Bool × Int × Int × Int × Int) : nref_Apply.c0 false (fun _ => true) a b0 b1 b2 b3 b4 c0 c1 c2 c3 c4 t1 t2 t3 t4 t5 t6 t7 t8 t9 t10 t11 t12 t13 t14 t15 t16 t17 t18 t19 t20 t21 t22 t23 t24 t25 t26 t27 t28 t29 t30 t31 t32 t33 t34 t35 t36 t37 t38 t39 t40 t41 t42 t43 t44 t45 t46 t47 t48 t49 t50 t51 t52 t53 t54 t55 t56 t57 = true → nref_Apply.c0 none (fun q => some (k q)) a b0 b1 b2 b3 b4 c0 c1 c2 c3 c4 t1 t2 t3 t4 t5 t6 t7 t8 t9 t10 t11 t12 t13 t14 t15 t16 t17 t18 t19 t20 t21 t22 t23 t24 t25 t26 t27 t28 t29 t30 t31 t32 t33 t34 t35 t36 t37 t38 t39 t40 t41 t42 t43 t44 t45 t46 t47 t48 t49 t50 t51 t52 t53 t54 t55 t56 t57 = some (k (nref_Apply.c0 (false, 0, 0, 0, 0, 0) id a b0 b1 b2 b3 b4 c0 c1 c2 c3 c4 t1 t2 t3 t4 t5 t6 t7 t8 t9 t10 t11 t12 t13 t14 t15 t16 t17 t18 t19 t20 t21 t22 t23 t24 t25 t26 t27 t28 t29 t30 t31 t32 t33 t34 t35 t36 t37 t38 t39 t40 t41 t42 t43 t44 t45 t46 t47 t48 t49 t50 t51 t52 t53 t54 t55 t56 t57)) := by
  unfold nref_Apply.c0; (repeat' (first | (apply pn k) | (exact pn_none _ _) | (exact pn_leaf k _)))
theorem nref_Apply.p {γ : Type} (k : Bool × Int × Int × Int × Int × Int → γ) (a : Int) (b0 : Bool) (b1 : Int) (b2 : Int) (b3 : Int) (b4 : Int) (c0 : Bool) (c1 : Int) (c2 : Int) (c3 : Int) (c4 : Int) (h : nref_Apply.ok a b0 b1 b2 b3 b4 c0 c1 c2 c3 c4 = true) : nref_Apply.c none (fun q => some (k q)) a b0 b1 b2 b3 b4 c0 c1 c2 c3 c4 = some (k (nref_Apply a b0 b1 b2 b3 b4 c0 c1 c2 c3 c4)) :=
  let t1 := bif a != 1 then a != 3 else false; let t2 := bif t1 then a != 4 else false; let t3 := bif t2 then a != 5 else false; let t4 := bif t3 then a != 6 else false; let t5 := bif t4 then a != 7 else false; let t6 := nref_Norm.ok b0 b1 b2 b3 b4; let t7 := nref_Norm.ok c0 c1 c2 c3 c4; let t8 := nref_Const 0; let t9 := nref_Norm c0 c1 c2 c3 c4; let t10 := bif a == 1 then t8.fst else t9.fst; let t11 := bif a == 1 then t8.snd.fst else t9.snd.fst; let t12 := bif a == 1 then t8.snd.snd.fst else t9.snd.snd.fst; let t13 := bif a == 1 then t8.snd.snd.snd.fst else t9.snd.snd.snd.fst; let t14 := bif a == 1 then t8.snd.snd.snd.snd else t9.snd.snd.snd.snd; let t15 := nref_NonZero.ok t10 t11 t12 t13 t14; let t16 := bif a == 6 then true else a == 7; let t17 := bif t16 then t15 && true else true; let t18 := nref_Norm b0 b1 b2 b3 b4; let t19 := nref_NonZero t10 t11 t12 t13 t14; let t20 := bif t16 then t19.fst else t10; let t21 := bif t18.fst then true else t20; let t22 := A.ref_Neg t18.snd.fst t18.snd.snd.fst; let t23 := B.ref_Neg.ok t18.snd.snd.snd.fst t18.snd.snd.snd.snd t22.snd.snd; let t24 := B.ref_Neg t18.snd.snd.snd.fst t18.snd.snd.snd.snd t22.snd.snd; let t25 := nref_Make.ok t22.fst t22.snd.fst t24.fst t24.snd; let t26 := nref_Make t22.fst t22.snd.fst t24.fst t24.snd; let t27 := bif t16 then t19.snd.snd.snd.fst else t13; let t28 := bif t16 then t19.snd.snd.snd.snd else t14; let t29 := bif t16 then t19.snd.fst else t11; let t30 := bif t16 then t19.snd.snd.fst else t12; let t31 := A.ref_Add t18.snd.fst t18.snd.snd.fst t29 t30; let t32 := B.ref_Add.ok t18.snd.snd.snd.fst t18.snd.snd.snd.snd t27 t28 t31.snd.snd; let t33 := B.ref_Add t18.snd.snd.snd.fst t18.snd.snd.snd.snd t27 t28 t31.snd.snd; let t34 := nref_Make.ok t31.fst t31.snd.fst t33.fst t33.snd; let t35 := nref_Make t31.fst t31.snd.fst t33.fst t33.snd; let t36 := A.ref_Sub t18.snd.fst t18.snd.snd.fst t29 t30; let t37 := B.ref_Sub.ok t18.snd.snd.snd.fst t18.snd.snd.snd.snd t27 t28 t36.snd.snd; let t38 := B.ref_Sub t18.snd.snd.snd.fst t18.snd.snd.snd.snd t27 t28 t36.snd.snd; let t39 := nref_Make.ok t36.fst t36.snd.fst t38.fst t38.snd; let t40 := nref_Make t36.fst t36.snd.fst t38.fst t38.snd; let t41 := A.ref_Mul t18.snd.fst t18.snd.snd.fst t29 t30; let t42 := B.ref_Mul.ok t18.snd.snd.snd.fst t18.snd.snd.snd.snd t27 t28 t41.snd.snd; let t43 := B.ref_Mul t18.snd.snd.snd.fst t18.snd.snd.snd.snd t27 t28 t41.snd.snd; let t44 := nref_Make.ok t41.fst t41.snd.fst t43.fst t43.snd; let t45 := nref_Make t41.fst t41.snd.fst t43.fst t43.snd; let t46 := A.ref_Div.ok t18.snd.fst t18.snd.snd.fst t29 t30; let t47 := B.ref_Div.ok t18.snd.snd.snd.fst t18.snd.snd.snd.snd t27 t28; let t48 := A.ref_Div t18.snd.fst t18.snd.snd.fst t29 t30; let t49 := B.ref_Div t18.snd.snd.snd.fst t18.snd.snd.snd.snd t27 t28; let t50 := nref_Make.ok t48.fst t48.snd.fst t49.fst t49.snd; let t51 := nref_Make t48.fst t48.snd.fst t49.fst t49.snd; let t52 := A.ref_Rem.ok t18.snd.fst t18.snd.snd.fst t29 t30; let t53 := B.ref_Rem.ok t18.snd.snd.snd.fst t18.snd.snd.snd.snd t27 t28; let t54 := A.ref_Rem t18.snd.fst t18.snd.snd.fst t29 t30; let t55 := B.ref_Rem t18.snd.snd.snd.fst t18.snd.snd.snd.snd t27 t28; let t56 := nref_Make.ok t54.fst t54.snd.fst t55.fst t55.snd; let t57 := nref_Make t54.fst t54.snd.fst t55.fst t55.snd; nref_Apply.p0 k a b0 b1 b2 b3 b4 c0 c1 c2 c3 c4 t1 t2 t3 t4 t5 t6 t7 t8 t9 t10 t11 t12 t13 t14 t15 t16 t17 t18 t19 t20 t21 t22 t23 t24 t25 t26 t27 t28 t29 t30 t31 t32 t33 t34 t35 t36 t37 t38 t39 t40 t41 t42 t43 t44 t45 t46 t47 t48 t49 t50 t51 t52 t53 t54 t55 t56 t57 h
theorem nref_Apply.r (a : Int) (b0 : Bool) (b1 : Int) (b2 : Int) (b3 : Int) (b4 : Int) (c0 : Bool) (c1 : Int) (c2 : Int) (c3 : Int) (c4 : Int) : runF P G (tab L_nref_NonZero) { merge := true, glue := true } 60 Tryz.f41 [.int .i64 a, .agg #[.bool b0, .int .i64 b1, .int .i64 b2, .int .u64 b3, .int .u64 b4], .agg #[.bool c0, .int .i64 c1, .int .i64 c2, .int .u64 c3, .int .u64 c4]] = nref_Apply.c none (fun q => some (.tuple #[.agg #[.bool (q).1, .int .i64 (q).2.1, .int .i64 (q).2.2.1, .int .u64 (q).2.2.2.1, .int .u64 (q).2.2.2.2.1], .int .i64 (q).2.2.2.2.2] : Value)) a b0 b1 b2 b3 b4 c0 c1 c2 c3 c4 := by kernel_rfl
theorem nref_Apply.t : TabOK P G (tab L_nref_Apply) :=
  TabOK_mkL C nref_NonZero.t Tryz.func41 (by kernel_rfl) { merge := true, glue := true } (fun c _ => LoopsOK_nil c) 60 (by
    rintro ⟨a, ⟨⟨b0, ⟨b1, ⟨b2, ⟨b3, ⟨b4, ⟨⟩⟩⟩⟩⟩⟩, ⟨⟨c0, ⟨c1, ⟨c2, ⟨c3, ⟨c4, ⟨⟩⟩⟩⟩⟩⟩, ⟨⟩⟩⟩⟩ h
    exact (nref_Apply.r a b0 b1 b2 b3 b4 c0 c1 c2 c3 c4).trans (nref_Apply.p (fun q => (.tuple #[.agg #[.bool (q).1, .int .i64 (q).2.1, .int .i64 (q).2.2.1, .int .u64 (q).2.2.2.1, .int .u64 (q).2.2.2.2.1], .int .i64 (q).2.2.2.2.2] : Value)) a b0 b1 b2 b3 b4 c0 c1 c2 c3 c4 h))
end
end Go.Proofs.YtonpbbhlmapbdaaGreatDoor.V
