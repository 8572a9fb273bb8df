/- What the functions of this seat compute, told by evaluation of their code; What the functions of this seat compute, told by evaluation of their code; What the functions of this seat compute, told by evaluation of their code; What the functions of this seat compute, told by evaluation of their code. Conditions: none. -/
import Derived.Test.YtmadebejnhinoaaDoorEA

set_option linter.unusedVariables false
set_option linter.unusedSimpArgs false
namespace Go.Proofs.YtmadebejnhinoaaDoor.V
open Go Go.Wk
noncomputable section

end
end Go.Proofs.YtmadebejnhinoaaDoor.V


set_option linter.unusedVariables false
set_option linter.unusedSimpArgs false
namespace Go.Proofs.YtmadebejnhinoaaDoor.V
open Go Go.Wk
noncomputable section

end
end Go.Proofs.YtmadebejnhinoaaDoor.V


set_option linter.unusedVariables false
set_option linter.unusedSimpArgs false
namespace Go.Proofs.YtmadebejnhinoaaDoor.V
open Go Go.Wk
noncomputable section

def num_Bot.c {γ : Type} (k : Bool × Int × Int × Int × Int → γ)  : γ := k (true, 0, 0, 0, 0)
def num_Bot  : Bool × Int × Int × Int × Int := num_Bot.c id 
def num_Bot.F : FV := mkF cU (fun _ => true) (fun | () => .agg #[.bool (num_Bot).1, .int .i64 (num_Bot).2.1, .int .i64 (num_Bot).2.2.1, .int .u64 (num_Bot).2.2.2.1, .int .u64 (num_Bot).2.2.2.2])
def L_num_Bot : TL := (43, num_Bot.F) :: L_B.cong_Meet
theorem num_Bot.p {γ : Type} (k : Bool × Int × Int × Int × Int → γ)  : num_Bot.c k  = k (num_Bot) := by
  unfold num_Bot num_Bot.c; (repeat' (first | (apply pc k) | (exact rfl)))
theorem num_Bot.r  : runF P G (tab L_B.cong_Meet) { merge := true, glue := true } 60 Tryd.f43 [] = num_Bot.c (fun q => some (.agg #[.bool (q).1, .int .i64 (q).2.1, .int .i64 (q).2.2.1, .int .u64 (q).2.2.2.1, .int .u64 (q).2.2.2.2] : Value))  := by kernel_rfl
theorem num_Bot.t : TabOK P G (tab L_num_Bot) :=
  TabOK_mkL C B.cong_Meet.t Tryd.func43 (by kernel_rfl) { merge := true, glue := true } (fun c _ => LoopsOK_nil c) 60 (by
    rintro ⟨⟩ h
    exact (num_Bot.r ).trans (num_Bot.p (fun q => some (.agg #[.bool (q).1, .int .i64 (q).2.1, .int .i64 (q).2.2.1, .int .u64 (q).2.2.2.1, .int .u64 (q).2.2.2.2] : Value)) ))

def num_Make.c0 {γ : Type} (k : Bool × Int × Int × Int × Int → γ) (a0 : Int) (a1 : Int) (b0 : Int) (b1 : Int) (t1 : Int × Int) (t2 : Int × Bool) (t3 : Bool) (t4 : Int × Bool) (t5 : Bool) (t6 : Bool) (t7 : Int × Int) (t8 : Int) (t9 : Int) : γ := bif t6
  then k (num_Bot.fst, num_Bot.snd.fst, num_Bot.snd.snd.fst, num_Bot.snd.snd.snd.fst, num_Bot.snd.snd.snd.snd)
  else k (false, t2.fst, t4.fst, t8, t9)
def num_Make.c {γ : Type} (k : Bool × Int × Int × Int × Int → γ) (a0 : Int) (a1 : Int) (b0 : Int) (b1 : Int) : γ := let t1 := B.cong_Norm b0 b1; let t2 := B.cong_Up t1.fst t1.snd a0; let t3 := bif decide (a0 > a1) then true else !t2.snd; let t4 := B.cong_Down t1.fst t1.snd a1; let t5 := bif t3 then true else !t4.snd; let t6 := bif t5 then true else decide (t2.fst > t4.fst); let t7 := B.cong_Const t2.fst; let t8 := bif t2.fst == t4.fst then t7.fst else t1.fst; let t9 := bif t2.fst == t4.fst then t7.snd else t1.snd; num_Make.c0 k a0 a1 b0 b1 t1 t2 t3 t4 t5 t6 t7 t8 t9
def num_Make (a0 : Int) (a1 : Int) (b0 : Int) (b1 : Int) : Bool × Int × Int × Int × Int := num_Make.c id a0 a1 b0 b1
def num_Make.F : FV := mkF (cP (cA (cP (cI .i64) (cP (cI .i64) cU))) (cP (cA (cP (cI .u64) (cP (cI .u64) cU))) cU)) (fun _ => true) (fun | ((a0, (a1, ())), ((b0, (b1, ())), ())) => .agg #[.bool (num_Make a0 a1 b0 b1).1, .int .i64 (num_Make a0 a1 b0 b1).2.1, .int .i64 (num_Make a0 a1 b0 b1).2.2.1, .int .u64 (num_Make a0 a1 b0 b1).2.2.2.1, .int .u64 (num_Make a0 a1 b0 b1).2.2.2.2])
def L_num_Make : TL := (35, num_Make.F) :: L_num_Bot
theorem num_Make.p0 {γ : Type} (k : Bool × Int × Int × Int × Int → γ) (a0 : Int) (a1 : Int) (b0 : Int) (b1 : Int) (t1 : Int × Int) (t2 : Int × Bool) (t3 : Bool) (t4 : Int × Bool) (t5 : Bool) (t6 : Bool) (t7 : Int × Int) (t8 : Int) (t9 : Int) : num_Make.c0 k a0 a1 b0 b1 t1 t2 t3 t4 t5 t6 t7 t8 t9 = k (num_Make.c0 id a0 a1 b0 b1 t1 t2 t3 t4 t5 t6 t7 t8 t9) := by
  unfold num_Make.c0; (repeat' (first | (apply pc k) | (exact rfl)))
theorem num_Make.p {γ : Type} (k : Bool × Int × Int × Int × Int → γ) (a0 : Int) (a1 : Int) (b0 : Int) (b1 : Int) : num_Make.c k a0 a1 b0 b1 = k (num_Make a0 a1 b0 b1) :=
  let t1 := B.cong_Norm b0 b1; let t2 := B.cong_Up t1.fst t1.snd a0; let t3 := bif decide (a0 > a1) then true else !t2.snd; let t4 := B.cong_Down t1.fst t1.snd a1; let t5 := bif t3 then true else !t4.snd; let t6 := bif t5 then true else decide (t2.fst > t4.fst); let t7 := B.cong_Const t2.fst; let t8 := bif t2.fst == t4.fst then t7.fst else t1.fst; let t9 := bif t2.fst == t4.fst then t7.snd else t1.snd; num_Make.p0 k a0 a1 b0 b1 t1 t2 t3 t4 t5 t6 t7 t8 t9
theorem num_Make.r (a0 : Int) (a1 : Int) (b0 : Int) (b1 : Int) : runF P G (tab L_num_Bot) { merge := true, glue := true } 60 Tryd.f35 [.agg #[.int .i64 a0, .int .i64 a1], .agg #[.int .u64 b0, .int .u64 b1]] = num_Make.c (fun q => some (.agg #[.bool (q).1, .int .i64 (q).2.1, .int .i64 (q).2.2.1, .int .u64 (q).2.2.2.1, .int .u64 (q).2.2.2.2] : Value)) a0 a1 b0 b1 := by kernel_rfl
theorem num_Make.t : TabOK P G (tab L_num_Make) :=
  TabOK_mkL C num_Bot.t Tryd.func35 (by kernel_rfl) { merge := true, glue := true } (fun c _ => LoopsOK_nil c) 60 (by
    rintro ⟨⟨a0, ⟨a1, ⟨⟩⟩⟩, ⟨⟨b0, ⟨b1, ⟨⟩⟩⟩, ⟨⟩⟩⟩ h
    exact (num_Make.r a0 a1 b0 b1).trans (num_Make.p (fun q => some (.agg #[.bool (q).1, .int .i64 (q).2.1, .int .i64 (q).2.2.1, .int .u64 (q).2.2.2.1, .int .u64 (q).2.2.2.2] : Value)) a0 a1 b0 b1))

def num_Range.c0 {γ : Type} (k : Bool × Int × Int × Int × Int → γ) (a : Int) (b : Int) (t1 : Bool × Int × Int × Int × Int) : γ := k (t1.fst, t1.snd.fst, t1.snd.snd.fst, t1.snd.snd.snd.fst, t1.snd.snd.snd.snd)
def num_Range.c {γ : Type} (k : Bool × Int × Int × Int × Int → γ) (a : Int) (b : Int) : γ := let t1 := num_Make a b 1 0; num_Range.c0 k a b t1
def num_Range (a : Int) (b : Int) : Bool × Int × Int × Int × Int := num_Range.c id a b
def num_Range.F : FV := mkF (cP (cI .i64) (cP (cI .i64) cU)) (fun _ => true) (fun | (a, (b, ())) => .agg #[.bool (num_Range a b).1, .int .i64 (num_Range a b).2.1, .int .i64 (num_Range a b).2.2.1, .int .u64 (num_Range a b).2.2.2.1, .int .u64 (num_Range a b).2.2.2.2])
def L_num_Range : TL := (17, num_Range.F) :: L_num_Make
theorem num_Range.p0 {γ : Type} (k : Bool × Int × Int × Int × Int → γ) (a : Int) (b : Int) (t1 : Bool × Int × Int × Int × Int) : num_Range.c0 k a b t1 = k (num_Range.c0 id a b t1) := by
  unfold num_Range.c0; (repeat' (first | (apply pc k) | (exact rfl)))
theorem num_Range.p {γ : Type} (k : Bool × Int × Int × Int × Int → γ) (a : Int) (b : Int) : num_Range.c k a b = k (num_Range a b) :=
  let t1 := num_Make a b 1 0; num_Range.p0 k a b t1
theorem num_Range.r (a : Int) (b : Int) : runF P G (tab L_num_Make) { merge := true, glue := true } 60 Tryd.f17 [.int .i64 a, .int .i64 b] = num_Range.c (fun q => some (.agg #[.bool (q).1, .int .i64 (q).2.1, .int .i64 (q).2.2.1, .int .u64 (q).2.2.2.1, .int .u64 (q).2.2.2.2] : Value)) a b := by kernel_rfl
theorem num_Range.t : TabOK P G (tab L_num_Range) :=
  TabOK_mkL C num_Make.t Tryd.func17 (by kernel_rfl) { merge := true, glue := true } (fun c _ => LoopsOK_nil c) 60 (by
    rintro ⟨a, ⟨b, ⟨⟩⟩⟩ h
    exact (num_Range.r a b).trans (num_Range.p (fun q => some (.agg #[.bool (q).1, .int .i64 (q).2.1, .int .i64 (q).2.2.1, .int .u64 (q).2.2.2.1, .int .u64 (q).2.2.2.2] : Value)) a b))

def num_Const.c0 {γ : Type} (k : Bool × Int × Int × Int × Int → γ) (a : Int) (t1 : Bool × Int × Int × Int × Int) : γ := k (t1.fst, t1.snd.fst, t1.snd.snd.fst, t1.snd.snd.snd.fst, t1.snd.snd.snd.snd)
def num_Const.c {γ : Type} (k : Bool × Int × Int × Int × Int → γ) (a : Int) : γ := let t1 := num_Range a a; num_Const.c0 k a t1
def num_Const (a : Int) : Bool × Int × Int × Int × Int := num_Const.c id a
def num_Const.F : FV := mkF (cP (cI .i64) cU) (fun _ => true) (fun | (a, ()) => .agg #[.bool (num_Const a).1, .int .i64 (num_Const a).2.1, .int .i64 (num_Const a).2.2.1, .int .u64 (num_Const a).2.2.2.1, .int .u64 (num_Const a).2.2.2.2])
def L_num_Const : TL := (16, num_Const.F) :: L_num_Range
theorem num_Const.p0 {γ : Type} (k : Bool × Int × Int × Int × Int → γ) (a : Int) (t1 : Bool × Int × Int × Int × Int) : num_Const.c0 k a t1 = k (num_Const.c0 id a t1) := by
  unfold num_Const.c0; (repeat' (first | (apply pc k) | (exact rfl)))
theorem num_Const.p {γ : Type} (k : Bool × Int × Int × Int × Int → γ) (a : Int) : num_Const.c k a = k (num_Const a) :=
  let t1 := num_Range a a; num_Const.p0 k a t1
theorem num_Const.r (a : Int) : runF P G (tab L_num_Range) { merge := true, glue := true } 60 Tryd.f16 [.int .i64 a] = num_Const.c (fun q => some (.agg #[.bool (q).1, .int .i64 (q).2.1, .int .i64 (q).2.2.1, .int .u64 (q).2.2.2.1, .int .u64 (q).2.2.2.2] : Value)) a := by kernel_rfl
theorem num_Const.t : TabOK P G (tab L_num_Const) :=
  TabOK_mkL C num_Range.t Tryd.func16 (by kernel_rfl) { merge := true, glue := true } (fun c _ => LoopsOK_nil c) 60 (by
    rintro ⟨a, ⟨⟩⟩ h
    exact (num_Const.r a).trans (num_Const.p (fun q => some (.agg #[.bool (q).1, .int .i64 (q).2.1, .int .i64 (q).2.2.1, .int .u64 (q).2.2.2.1, .int .u64 (q).2.2.2.2] : Value)) a))

def num_Norm.c0 {γ : Type} (k : Bool × Int × Int × Int × Int → γ) (a0 : Bool) (a1 : Int) (a2 : Int) (a3 : Int) (a4 : Int) (t1 : Bool × Int × Int × Int × Int) : γ := bif a0
  then k (num_Bot.fst, num_Bot.snd.fst, num_Bot.snd.snd.fst, num_Bot.snd.snd.snd.fst, num_Bot.snd.snd.snd.snd)
  else k (t1.fst, t1.snd.fst, t1.snd.snd.fst, t1.snd.snd.snd.fst, t1.snd.snd.snd.snd)
def num_Norm.c {γ : Type} (k : Bool × Int × Int × Int × Int → γ) (a0 : Bool) (a1 : Int) (a2 : Int) (a3 : Int) (a4 : Int) : γ := let t1 := num_Make a1 a2 a3 a4; num_Norm.c0 k a0 a1 a2 a3 a4 t1
def num_Norm (a0 : Bool) (a1 : Int) (a2 : Int) (a3 : Int) (a4 : Int) : Bool × Int × Int × Int × Int := num_Norm.c id a0 a1 a2 a3 a4
def num_Norm.F : FV := mkF (cP (cA (cP cB (cP (cI .i64) (cP (cI .i64) (cP (cI .u64) (cP (cI .u64) cU)))))) cU) (fun _ => true) (fun | ((a0, (a1, (a2, (a3, (a4, ()))))), ()) => .agg #[.bool (num_Norm a0 a1 a2 a3 a4).1, .int .i64 (num_Norm a0 a1 a2 a3 a4).2.1, .int .i64 (num_Norm a0 a1 a2 a3 a4).2.2.1, .int .u64 (num_Norm a0 a1 a2 a3 a4).2.2.2.1, .int .u64 (num_Norm a0 a1 a2 a3 a4).2.2.2.2])
def L_num_Norm : TL := (32, num_Norm.F) :: L_num_Const
theorem num_Norm.p0 {γ : Type} (k : Bool × Int × Int × Int × Int → γ) (a0 : Bool) (a1 : Int) (a2 : Int) (a3 : Int) (a4 : Int) (t1 : Bool × Int × Int × Int × Int) : num_Norm.c0 k a0 a1 a2 a3 a4 t1 = k (num_Norm.c0 id a0 a1 a2 a3 a4 t1) := by
  unfold num_Norm.c0; (repeat' (first | (apply pc k) | (exact rfl)))
theorem num_Norm.p {γ : Type} (k : Bool × Int × Int × Int × Int → γ) (a0 : Bool) (a1 : Int) (a2 : Int) (a3 : Int) (a4 : Int) : num_Norm.c k a0 a1 a2 a3 a4 = k (num_Norm a0 a1 a2 a3 a4) :=
  let t1 := num_Make a1 a2 a3 a4; num_Norm.p0 k a0 a1 a2 a3 a4 t1
theorem num_Norm.r (a0 : Bool) (a1 : Int) (a2 : Int) (a3 : Int) (a4 : Int) : runF P G (tab L_num_Const) { merge := true, glue := true } 60 Tryd.f32 [.agg #[.bool a0, .int .i64 a1, .int .i64 a2, .int .u64 a3, .int .u64 a4]] = num_Norm.c (fun q => some (.agg #[.bool (q).1, .int .i64 (q).2.1, .int .i64 (q).2.2.1, .int .u64 (q).2.2.2.1, .int .u64 (q).2.2.2.2] : Value)) a0 a1 a2 a3 a4 := by kernel_rfl
theorem num_Norm.t : TabOK P G (tab L_num_Norm) :=
  TabOK_mkL C num_Const.t Tryd.func32 (by kernel_rfl) { merge := true, glue := true } (fun c _ => LoopsOK_nil c) 60 (by
    rintro ⟨⟨a0, ⟨a1, ⟨a2, ⟨a3, ⟨a4, ⟨⟩⟩⟩⟩⟩⟩, ⟨⟩⟩ h
    exact (num_Norm.r a0 a1 a2 a3 a4).trans (num_Norm.p (fun q => some (.agg #[.bool (q).1, .int .i64 (q).2.1, .int .i64 (q).2.2.1, .int .u64 (q).2.2.2.1, .int .u64 (q).2.2.2.2] : Value)) a0 a1 a2 a3 a4))

def num_Has.c0 {γ : Type} (k : Bool → γ) (a0 : Bool) (a1 : Int) (a2 : Int) (a3 : Int) (a4 : Int) (b : Int) (t1 : Bool) (t2 : Bool) (t3 : Bool) (t4 : Bool) : γ := k (t4)
def num_Has.c {γ : Type} (k : Bool → γ) (a0 : Bool) (a1 : Int) (a2 : Int) (a3 : Int) (a4 : Int) (b : Int) : γ := let t1 := A.ival_Has a1 a2 b; let t2 := bif !a0 then t1 else false; let t3 := B.cong_Has a3 a4 b; let t4 := bif t2 then t3 else false; num_Has.c0 k a0 a1 a2 a3 a4 b t1 t2 t3 t4
def num_Has (a0 : Bool) (a1 : Int) (a2 : Int) (a3 : Int) (a4 : Int) (b : Int) : Bool := num_Has.c id a0 a1 a2 a3 a4 b
def num_Has.F : FV := mkF (cP (cA (cP cB (cP (cI .i64) (cP (cI .i64) (cP (cI .u64) (cP (cI .u64) cU)))))) (cP (cI .i64) cU)) (fun _ => true) (fun | ((a0, (a1, (a2, (a3, (a4, ()))))), (b, ())) => .bool (num_Has a0 a1 a2 a3 a4 b))
def L_num_Has : TL := (18, num_Has.F) :: L_num_Norm
theorem num_Has.p0 {γ : Type} (k : Bool → γ) (a0 : Bool) (a1 : Int) (a2 : Int) (a3 : Int) (a4 : Int) (b : Int) (t1 : Bool) (t2 : Bool) (t3 : Bool) (t4 : Bool) : num_Has.c0 k a0 a1 a2 a3 a4 b t1 t2 t3 t4 = k (num_Has.c0 id a0 a1 a2 a3 a4 b t1 t2 t3 t4) := by
  unfold num_Has.c0; (repeat' (first | (apply pc k) | (exact rfl)))
theorem num_Has.p {γ : Type} (k : Bool → γ) (a0 : Bool) (a1 : Int) (a2 : Int) (a3 : Int) (a4 : Int) (b : Int) : num_Has.c k a0 a1 a2 a3 a4 b = k (num_Has a0 a1 a2 a3 a4 b) :=
  let t1 := A.ival_Has a1 a2 b; let t2 := bif !a0 then t1 else false; let t3 := B.cong_Has a3 a4 b; let t4 := bif t2 then t3 else false; num_Has.p0 k a0 a1 a2 a3 a4 b t1 t2 t3 t4
theorem num_Has.r (a0 : Bool) (a1 : Int) (a2 : Int) (a3 : Int) (a4 : Int) (b : Int) : runF P G (tab L_num_Norm) { merge := true, glue := true } 60 Tryd.f18 [.agg #[.bool a0, .int .i64 a1, .int .i64 a2, .int .u64 a3, .int .u64 a4], .int .i64 b] = num_Has.c (fun q => some (.bool (q) : Value)) a0 a1 a2 a3 a4 b := by kernel_rfl
theorem num_Has.t : TabOK P G (tab L_num_Has) :=
  TabOK_mkL C num_Norm.t Tryd.func18 (by kernel_rfl) { merge := true, glue := true } (fun c _ => LoopsOK_nil c) 60 (by
    rintro ⟨⟨a0, ⟨a1, ⟨a2, ⟨a3, ⟨a4, ⟨⟩⟩⟩⟩⟩⟩, ⟨b, ⟨⟩⟩⟩ h
    exact (num_Has.r a0 a1 a2 a3 a4 b).trans (num_Has.p (fun q => some (.bool (q) : Value)) a0 a1 a2 a3 a4 b))

def num_Leq.c0 {γ : Type} (n : γ) (k : Bool → γ) (a0 : Bool) (a1 : Int) (a2 : Int) (a3 : Int) (a4 : Int) (b0 : Bool) (b1 : Int) (b2 : Int) (b3 : Int) (b4 : Int) (t1 : Bool × Int × Int × Int × Int) (t2 : Bool × Int × Int × Int × Int) (t3 : Bool) (t4 : Bool) (t5 : Bool) (t6 : Bool) (t7 : Bool) (t8 : Bool) : γ := bif (t3 || !(t5 && (!t1.fst && true))) && true
  then k (t8)
  else n
def num_Leq.c {γ : Type} (n : γ) (k : Bool → γ) (a0 : Bool) (a1 : Int) (a2 : Int) (a3 : Int) (a4 : Int) (b0 : Bool) (b1 : Int) (b2 : Int) (b3 : Int) (b4 : Int) : γ := let t1 := num_Norm a0 a1 a2 a3 a4; let t2 := num_Norm b0 b1 b2 b3 b4; let t3 := B.cong_Leq.ok t1.snd.snd.snd.fst t1.snd.snd.snd.snd t2.snd.snd.snd.fst t2.snd.snd.snd.snd; let t4 := A.ival_Leq t1.snd.fst t1.snd.snd.fst t2.snd.fst t2.snd.snd.fst; let t5 := bif !t2.fst then t4 else false; let t6 := B.cong_Leq t1.snd.snd.snd.fst t1.snd.snd.snd.snd t2.snd.snd.snd.fst t2.snd.snd.snd.snd; let t7 := bif t5 then t6 else false; let t8 := bif t1.fst then true else t7; num_Leq.c0 n k a0 a1 a2 a3 a4 b0 b1 b2 b3 b4 t1 t2 t3 t4 t5 t6 t7 t8
def num_Leq.ok (a0 : Bool) (a1 : Int) (a2 : Int) (a3 : Int) (a4 : Int) (b0 : Bool) (b1 : Int) (b2 : Int) (b3 : Int) (b4 : Int) : Bool := num_Leq.c false (fun _ => true) a0 a1 a2 a3 a4 b0 b1 b2 b3 b4
def num_Leq (a0 : Bool) (a1 : Int) (a2 : Int) (a3 : Int) (a4 : Int) (b0 : Bool) (b1 : Int) (b2 : Int) (b3 : Int) (b4 : Int) : Bool := num_Leq.c (false) id a0 a1 a2 a3 a4 b0 b1 b2 b3 b4
def num_Leq.F : FV := mkF (cP (cA (cP cB (cP (cI .i64) (cP (cI .i64) (cP (cI .u64) (cP (cI .u64) cU)))))) (cP (cA (cP cB (cP (cI .i64) (cP (cI .i64) (cP (cI .u64) (cP (cI .u64) cU)))))) cU)) (fun | ((a0, (a1, (a2, (a3, (a4, ()))))), ((b0, (b1, (b2, (b3, (b4, ()))))), ())) => num_Leq.ok a0 a1 a2 a3 a4 b0 b1 b2 b3 b4) (fun | ((a0, (a1, (a2, (a3, (a4, ()))))), ((b0, (b1, (b2, (b3, (b4, ()))))), ())) => .bool (num_Leq a0 a1 a2 a3 a4 b0 b1 b2 b3 b4))
def L_num_Leq : TL := (21, num_Leq.F) :: L_num_Has
theorem num_Leq.p0 {γ : Type} (k : Bool → γ) (a0 : Bool) (a1 : Int) (a2 : Int) (a3 : Int) (a4 : Int) (b0 : Bool) (b1 : Int) (b2 : Int) (b3 : Int) (b4 : Int) (t1 : Bool × Int × Int × Int × Int) (t2 : Bool × Int × Int × Int × Int) (t3 : Bool) (t4 : Bool) (t5 : Bool) (t6 : Bool) (t7 : Bool) (t8 : Bool) : num_Leq.c0 false (fun _ => true) a0 a1 a2 a3 a4 b0 b1 b2 b3 b4 t1 t2 t3 t4 t5 t6 t7 t8 = true → num_Leq.c0 none (fun q => some (k q)) a0 a1 a2 a3 a4 b0 b1 b2 b3 b4 t1 t2 t3 t4 t5 t6 t7 t8 = some (k (num_Leq.c0 (false) id a0 a1 a2 a3 a4 b0 b1 b2 b3 b4 t1 t2 t3 t4 t5 t6 t7 t8)) := by
  unfold num_Leq.c0; (repeat' (first | (apply pn k) | (exact pn_none _ _) | (exact pn_leaf k _)))
theorem num_Leq.p {γ : Type} (k : Bool → γ) (a0 : Bool) (a1 : Int) (a2 : Int) (a3 : Int) (a4 : Int) (b0 : Bool) (b1 : Int) (b2 : Int) (b3 : Int) (b4 : Int) (h : num_Leq.ok a0 a1 a2 a3 a4 b0 b1 b2 b3 b4 = true) : num_Leq.c none (fun q => some (k q)) a0 a1 a2 a3 a4 b0 b1 b2 b3 b4 = some (k (num_Leq a0 a1 a2 a3 a4 b0 b1 b2 b3 b4)) :=
  let t1 := num_Norm a0 a1 a2 a3 a4; let t2 := num_Norm b0 b1 b2 b3 b4; let t3 := B.cong_Leq.ok t1.snd.snd.snd.fst t1.snd.snd.snd.snd t2.snd.snd.snd.fst t2.snd.snd.snd.snd; let t4 := A.ival_Leq t1.snd.fst t1.snd.snd.fst t2.snd.fst t2.snd.snd.fst; let t5 := bif !t2.fst then t4 else false; let t6 := B.cong_Leq t1.snd.snd.snd.fst t1.snd.snd.snd.snd t2.snd.snd.snd.fst t2.snd.snd.snd.snd; let t7 := bif t5 then t6 else false; let t8 := bif t1.fst then true else t7; num_Leq.p0 k a0 a1 a2 a3 a4 b0 b1 b2 b3 b4 t1 t2 t3 t4 t5 t6 t7 t8 h
theorem num_Leq.r (a0 : Bool) (a1 : Int) (a2 : Int) (a3 : Int) (a4 : Int) (b0 : Bool) (b1 : Int) (b2 : Int) (b3 : Int) (b4 : Int) : runF P G (tab L_num_Has) { merge := true, glue := true } 60 Tryd.f21 [.agg #[.bool a0, .int .i64 a1, .int .i64 a2, .int .u64 a3, .int .u64 a4], .agg #[.bool b0, .int .i64 b1, .int .i64 b2, .int .u64 b3, .int .u64 b4]] = num_Leq.c none (fun q => some (.bool (q) : Value)) a0 a1 a2 a3 a4 b0 b1 b2 b3 b4 := by kernel_rfl
theorem num_Leq.t : TabOK P G (tab L_num_Leq) :=
  TabOK_mkL C num_Has.t Tryd.func21 (by kernel_rfl) { merge := true, glue := true } (fun c _ => LoopsOK_nil c) 60 (by
    rintro ⟨⟨a0, ⟨a1, ⟨a2, ⟨a3, ⟨a4, ⟨⟩⟩⟩⟩⟩⟩, ⟨⟨b0, ⟨b1, ⟨b2, ⟨b3, ⟨b4, ⟨⟩⟩⟩⟩⟩⟩, ⟨⟩⟩⟩ h
    exact (num_Leq.r a0 a1 a2 a3 a4 b0 b1 b2 b3 b4).trans (num_Leq.p (fun q => (.bool (q) : Value)) a0 a1 a2 a3 a4 b0 b1 b2 b3 b4 h))

def num_Join.c0 {γ : Type} (n : γ) (k : Bool × Int × Int × Int × Int → γ) (a0 : Bool) (a1 : Int) (a2 : Int) (a3 : Int) (a4 : Int) (b0 : Bool) (b1 : Int) (b2 : Int) (b3 : Int) (b4 : Int) (t1 : Bool × Int × Int × Int × Int) (t2 : Bool × Int × Int × Int × Int) (t3 : Bool) (t4 : Int × Int) (t5 : Int × Int) (t6 : Bool × Int × Int × Int × Int) : γ := bif t1.fst
  then k (t2.fst, t2.snd.fst, t2.snd.snd.fst, t2.snd.snd.snd.fst, t2.snd.snd.snd.snd)
  else bif t2.fst
   then k (t1.fst, t1.snd.fst, t1.snd.snd.fst, t1.snd.snd.snd.fst, t1.snd.snd.snd.snd)
   else bif t3
    then k (t6.fst, t6.snd.fst, t6.snd.snd.fst, t6.snd.snd.snd.fst, t6.snd.snd.snd.snd)
    else n
def num_Join.c {γ : Type} (n : γ) (k : Bool × Int × Int × Int × Int → γ) (a0 : Bool) (a1 : Int) (a2 : Int) (a3 : Int) (a4 : Int) (b0 : Bool) (b1 : Int) (b2 : Int) (b3 : Int) (b4 : Int) : γ := let t1 := num_Norm a0 a1 a2 a3 a4; let t2 := num_Norm b0 b1 b2 b3 b4; let t3 := B.cong_Join.ok t1.snd.snd.snd.fst t1.snd.snd.snd.snd t2.snd.snd.snd.fst t2.snd.snd.snd.snd; let t4 := A.ival_Join t1.snd.fst t1.snd.snd.fst t2.snd.fst t2.snd.snd.fst; let t5 := B.cong_Join t1.snd.snd.snd.fst t1.snd.snd.snd.snd t2.snd.snd.snd.fst t2.snd.snd.snd.snd; let t6 := num_Make t4.fst t4.snd t5.fst t5.snd; num_Join.c0 n k a0 a1 a2 a3 a4 b0 b1 b2 b3 b4 t1 t2 t3 t4 t5 t6
def num_Join.ok (a0 : Bool) (a1 : Int) (a2 : Int) (a3 : Int) (a4 : Int) (b0 : Bool) (b1 : Int) (b2 : Int) (b3 : Int) (b4 : Int) : Bool := num_Join.c false (fun _ => true) a0 a1 a2 a3 a4 b0 b1 b2 b3 b4
def num_Join (a0 : Bool) (a1 : Int) (a2 : Int) (a3 : Int) (a4 : Int) (b0 : Bool) (b1 : Int) (b2 : Int) (b3 : Int) (b4 : Int) : Bool × Int × Int × Int × Int := num_Join.c (false, 0, 0, 0, 0) id a0 a1 a2 a3 a4 b0 b1 b2 b3 b4
def num_Join.F : FV := mkF (cP (cA (cP cB (cP (cI .i64) (cP (cI .i64) (cP (cI .u64) (cP (cI .u64) cU)))))) (cP (cA (cP cB (cP (cI .i64) (cP (cI .i64) (cP (cI .u64) (cP (cI .u64) cU)))))) cU)) (fun | ((a0, (a1, (a2, (a3, (a4, ()))))), ((b0, (b1, (b2, (b3, (b4, ()))))), ())) => num_Join.ok a0 a1 a2 a3 a4 b0 b1 b2 b3 b4) (fun | ((a0, (a1, (a2, (a3, (a4, ()))))), ((b0, (b1, (b2, (b3, (b4, ()))))), ())) => .agg #[.bool (num_Join a0 a1 a2 a3 a4 b0 b1 b2 b3 b4).1, .int .i64 (num_Join a0 a1 a2 a3 a4 b0 b1 b2 b3 b4).2.1, .int .i64 (num_Join a0 a1 a2 a3 a4 b0 b1 b2 b3 b4).2.2.1, .int .u64 (num_Join a0 a1 a2 a3 a4 b0 b1 b2 b3 b4).2.2.2.1, .int .u64 (num_Join a0 a1 a2 a3 a4 b0 b1 b2 b3 b4).2.2.2.2])
def L_num_Join : TL := (27, num_Join.F) :: L_num_Leq
theorem num_Join.p0 {γ : Type} (k : Bool × Int × Int × Int × Int → γ) (a0 : Bool) (a1 : Int) (a2 : Int) (a3 : Int) (a4 : Int) (b0 : Bool) (b1 : Int) (b2 : Int) (b3 : Int) (b4 : Int) (t1 : Bool × Int × Int × Int × Int) (t2 : Bool × Int × Int × Int × Int) (t3 : Bool) (t4 : Int × Int) (t5 : Int × Int) (t6 : Bool × Int × Int × Int × Int) : num_Join.c0 false (fun _ => true) a0 a1 a2 a3 a4 b0 b1 b2 b3 b4 t1 t2 t3 t4 t5 t6 = true → num_Join.c0 none (fun q => some (k q)) a0 a1 a2 a3 a4 b0 b1 b2 b3 b4 t1 t2 t3 t4 t5 t6 = some (k (num_Join.c0 (false, 0, 0, 0, 0) id a0 a1 a2 a3 a4 b0 b1 b2 b3 b4 t1 t2 t3 t4 t5 t6)) := by
  unfold num_Join.c0; (repeat' (first | (apply pn k) | (exact pn_none _ _) | (exact pn_leaf k _)))
theorem num_Join.p {γ : Type} (k : Bool × Int × Int × Int × Int → γ) (a0 : Bool) (a1 : Int) (a2 : Int) (a3 : Int) (a4 : Int) (b0 : Bool) (b1 : Int) (b2 : Int) (b3 : Int) (b4 : Int) (h : num_Join.ok a0 a1 a2 a3 a4 b0 b1 b2 b3 b4 = true) : num_Join.c none (fun q => some (k q)) a0 a1 a2 a3 a4 b0 b1 b2 b3 b4 = some (k (num_Join a0 a1 a2 a3 a4 b0 b1 b2 b3 b4)) :=
  let t1 := num_Norm a0 a1 a2 a3 a4; let t2 := num_Norm b0 b1 b2 b3 b4; let t3 := B.cong_Join.ok t1.snd.snd.snd.fst t1.snd.snd.snd.snd t2.snd.snd.snd.fst t2.snd.snd.snd.snd; let t4 := A.ival_Join t1.snd.fst t1.snd.snd.fst t2.snd.fst t2.snd.snd.fst; let t5 := B.cong_Join t1.snd.snd.snd.fst t1.snd.snd.snd.snd t2.snd.snd.snd.fst t2.snd.snd.snd.snd; let t6 := num_Make t4.fst t4.snd t5.fst t5.snd; num_Join.p0 k a0 a1 a2 a3 a4 b0 b1 b2 b3 b4 t1 t2 t3 t4 t5 t6 h
theorem num_Join.r (a0 : Bool) (a1 : Int) (a2 : Int) (a3 : Int) (a4 : Int) (b0 : Bool) (b1 : Int) (b2 : Int) (b3 : Int) (b4 : Int) : runF P G (tab L_num_Leq) { merge := true, glue := true } 60 Tryd.f27 [.agg #[.bool a0, .int .i64 a1, .int .i64 a2, .int .u64 a3, .int .u64 a4], .agg #[.bool b0, .int .i64 b1, .int .i64 b2, .int .u64 b3, .int .u64 b4]] = num_Join.c none (fun q => some (.agg #[.bool (q).1, .int .i64 (q).2.1, .int .i64 (q).2.2.1, .int .u64 (q).2.2.2.1, .int .u64 (q).2.2.2.2] : Value)) a0 a1 a2 a3 a4 b0 b1 b2 b3 b4 := by kernel_rfl
theorem num_Join.t : TabOK P G (tab L_num_Join) :=
  TabOK_mkL C num_Leq.t Tryd.func27 (by kernel_rfl) { merge := true, glue := true } (fun c _ => LoopsOK_nil c) 60 (by
    rintro ⟨⟨a0, ⟨a1, ⟨a2, ⟨a3, ⟨a4, ⟨⟩⟩⟩⟩⟩⟩, ⟨⟨b0, ⟨b1, ⟨b2, ⟨b3, ⟨b4, ⟨⟩⟩⟩⟩⟩⟩, ⟨⟩⟩⟩ h
    exact (num_Join.r a0 a1 a2 a3 a4 b0 b1 b2 b3 b4).trans (num_Join.p (fun q => (.agg #[.bool (q).1, .int .i64 (q).2.1, .int .i64 (q).2.2.1, .int .u64 (q).2.2.2.1, .int .u64 (q).2.2.2.2] : Value)) a0 a1 a2 a3 a4 b0 b1 b2 b3 b4 h))

def num_Meet.c0 {γ : Type} (n : γ) (k : Bool × Int × Int × Int × Int → γ) (a0 : Bool) (a1 : Int) (a2 : Int) (a3 : Int) (a4 : Int) (b0 : Bool) (b1 : Int) (b2 : Int) (b3 : Int) (b4 : Int) (t1 : Bool × Int × Int × Int × Int) (t2 : Bool × Int × Int × Int × Int) (t3 : Bool) (t4 : Bool) (t5 : Int × Int × Bool) (t6 : Bool) (t7 : Int × Int) (t8 : Bool × Int × Int × Int × Int) : γ := bif t3
  then bif t6
   then k (num_Bot.fst, num_Bot.snd.fst, num_Bot.snd.snd.fst, num_Bot.snd.snd.snd.fst, num_Bot.snd.snd.snd.snd)
   else k (t8.fst, t8.snd.fst, t8.snd.snd.fst, t8.snd.snd.snd.fst, t8.snd.snd.snd.snd)
  else n
def num_Meet.c {γ : Type} (n : γ) (k : Bool × Int × Int × Int × Int → γ) (a0 : Bool) (a1 : Int) (a2 : Int) (a3 : Int) (a4 : Int) (b0 : Bool) (b1 : Int) (b2 : Int) (b3 : Int) (b4 : Int) : γ := let t1 := num_Norm a0 a1 a2 a3 a4; let t2 := num_Norm b0 b1 b2 b3 b4; let t3 := B.cong_Meet.ok t1.snd.snd.snd.fst t1.snd.snd.snd.snd t2.snd.snd.snd.fst t2.snd.snd.snd.snd; let t4 := bif t1.fst then true else t2.fst; let t5 := B.cong_Meet t1.snd.snd.snd.fst t1.snd.snd.snd.snd t2.snd.snd.snd.fst t2.snd.snd.snd.snd; let t6 := bif t4 then true else !t5.snd.snd; let t7 := A.ival_Meet t1.snd.fst t1.snd.snd.fst t2.snd.fst t2.snd.snd.fst; let t8 := num_Make t7.fst t7.snd t5.fst t5.snd.fst; num_Meet.c0 n k a0 a1 a2 a3 a4 b0 b1 b2 b3 b4 t1 t2 t3 t4 t5 t6 t7 t8
def num_Meet.ok (a0 : Bool) (a1 : Int) (a2 : Int) (a3 : Int) (a4 : Int) (b0 : Bool) (b1 : Int) (b2 : Int) (b3 : Int) (b4 : Int) : Bool := num_Meet.c false (fun _ => true) a0 a1 a2 a3 a4 b0 b1 b2 b3 b4
def num_Meet (a0 : Bool) (a1 : Int) (a2 : Int) (a3 : Int) (a4 : Int) (b0 : Bool) (b1 : Int) (b2 : Int) (b3 : Int) (b4 : Int) : Bool × Int × Int × Int × Int := num_Meet.c (false, 0, 0, 0, 0) id a0 a1 a2 a3 a4 b0 b1 b2 b3 b4
def num_Meet.F : FV := mkF (cP (cA (cP cB (cP (cI .i64) (cP (cI .i64) (cP (cI .u64) (cP (cI .u64) cU)))))) (cP (cA (cP cB (cP (cI .i64) (cP (cI .i64) (cP (cI .u64) (cP (cI .u64) cU)))))) cU)) (fun | ((a0, (a1, (a2, (a3, (a4, ()))))), ((b0, (b1, (b2, (b3, (b4, ()))))), ())) => num_Meet.ok a0 a1 a2 a3 a4 b0 b1 b2 b3 b4) (fun | ((a0, (a1, (a2, (a3, (a4, ()))))), ((b0, (b1, (b2, (b3, (b4, ()))))), ())) => .agg #[.bool (num_Meet a0 a1 a2 a3 a4 b0 b1 b2 b3 b4).1, .int .i64 (num_Meet a0 a1 a2 a3 a4 b0 b1 b2 b3 b4).2.1, .int .i64 (num_Meet a0 a1 a2 a3 a4 b0 b1 b2 b3 b4).2.2.1, .int .u64 (num_Meet a0 a1 a2 a3 a4 b0 b1 b2 b3 b4).2.2.2.1, .int .u64 (num_Meet a0 a1 a2 a3 a4 b0 b1 b2 b3 b4).2.2.2.2])
def L_num_Meet : TL := (25, num_Meet.F) :: L_num_Join
theorem num_Meet.p0 {γ : Type} (k : Bool × Int × Int × Int × Int → γ) (a0 : Bool) (a1 : Int) (a2 : Int) (a3 : Int) (a4 : Int) (b0 : Bool) (b1 : Int) (b2 : Int) (b3 : Int) (b4 : Int) (t1 : Bool × Int × Int × Int × Int) (t2 : Bool × Int × Int × Int × Int) (t3 : Bool) (t4 : Bool) (t5 : Int × Int × Bool) (t6 : Bool) (t7 : Int × Int) (t8 : Bool × Int × Int × Int × Int) : num_Meet.c0 false (fun _ => true) a0 a1 a2 a3 a4 b0 b1 b2 b3 b4 t1 t2 t3 t4 t5 t6 t7 t8 = true → num_Meet.c0 none (fun q => some (k q)) a0 a1 a2 a3 a4 b0 b1 b2 b3 b4 t1 t2 t3 t4 t5 t6 t7 t8 = some (k (num_Meet.c0 (false, 0, 0, 0, 0) id a0 a1 a2 a3 a4 b0 b1 b2 b3 b4 t1 t2 t3 t4 t5 t6 t7 t8)) := by
  unfold num_Meet.c0; (repeat' (first | (apply pn k) | (exact pn_none _ _) | (exact pn_leaf k _)))
theorem num_Meet.p {γ : Type} (k : Bool × Int × Int × Int × Int → γ) (a0 : Bool) (a1 : Int) (a2 : Int) (a3 : Int) (a4 : Int) (b0 : Bool) (b1 : Int) (b2 : Int) (b3 : Int) (b4 : Int) (h : num_Meet.ok a0 a1 a2 a3 a4 b0 b1 b2 b3 b4 = true) : num_Meet.c none (fun q => some (k q)) a0 a1 a2 a3 a4 b0 b1 b2 b3 b4 = some (k (num_Meet a0 a1 a2 a3 a4 b0 b1 b2 b3 b4)) :=
  let t1 := num_Norm a0 a1 a2 a3 a4; let t2 := num_Norm b0 b1 b2 b3 b4; let t3 := B.cong_Meet.ok t1.snd.snd.snd.fst t1.snd.snd.snd.snd t2.snd.snd.snd.fst t2.snd.snd.snd.snd; let t4 := bif t1.fst then true else t2.fst; let t5 := B.cong_Meet t1.snd.snd.snd.fst t1.snd.snd.snd.snd t2.snd.snd.snd.fst t2.snd.snd.snd.snd; let t6 := bif t4 then true else !t5.snd.snd; let t7 := A.ival_Meet t1.snd.fst t1.snd.snd.fst t2.snd.fst t2.snd.snd.fst; let t8 := num_Make t7.fst t7.snd t5.fst t5.snd.fst; num_Meet.p0 k a0 a1 a2 a3 a4 b0 b1 b2 b3 b4 t1 t2 t3 t4 t5 t6 t7 t8 h
theorem num_Meet.r (a0 : Bool) (a1 : Int) (a2 : Int) (a3 : Int) (a4 : Int) (b0 : Bool) (b1 : Int) (b2 : Int) (b3 : Int) (b4 : Int) : runF P G (tab L_num_Join) { merge := true, glue := true } 60 Tryd.f25 [.agg #[.bool a0, .int .i64 a1, .int .i64 a2, .int .u64 a3, .int .u64 a4], .agg #[.bool b0, .int .i64 b1, .int .i64 b2, .int .u64 b3, .int .u64 b4]] = num_Meet.c none (fun q => some (.agg #[.bool (q).1, .int .i64 (q).2.1, .int .i64 (q).2.2.1, .int .u64 (q).2.2.2.1, .int .u64 (q).2.2.2.2] : Value)) a0 a1 a2 a3 a4 b0 b1 b2 b3 b4 := by kernel_rfl
theorem num_Meet.t : TabOK P G (tab L_num_Meet) :=
  TabOK_mkL C num_Join.t Tryd.func25 (by kernel_rfl) { merge := true, glue := true } (fun c _ => LoopsOK_nil c) 60 (by
    rintro ⟨⟨a0, ⟨a1, ⟨a2, ⟨a3, ⟨a4, ⟨⟩⟩⟩⟩⟩⟩, ⟨⟨b0, ⟨b1, ⟨b2, ⟨b3, ⟨b4, ⟨⟩⟩⟩⟩⟩⟩, ⟨⟩⟩⟩ h
    exact (num_Meet.r a0 a1 a2 a3 a4 b0 b1 b2 b3 b4).trans (num_Meet.p (fun q => (.agg #[.bool (q).1, .int .i64 (q).2.1, .int .i64 (q).2.2.1, .int .u64 (q).2.2.2.1, .int .u64 (q).2.2.2.2] : Value)) a0 a1 a2 a3 a4 b0 b1 b2 b3 b4 h))

end
end Go.Proofs.YtmadebejnhinoaaDoor.V


set_option linter.unusedVariables false
set_option linter.unusedSimpArgs false
namespace Go.Proofs.YtmadebejnhinoaaDoor.V
open Go Go.Wk
noncomputable section

end
end Go.Proofs.YtmadebejnhinoaaDoor.V

