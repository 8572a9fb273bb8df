/- What the functions of this seat compute, told by evaluation of their code. Conditions: none. -/
import Derived.Test.YtonpbbhlmapbdaaGreatDoorE6
set_option linter.unusedVariables false
set_option linter.unusedSimpArgs false
namespace Go.Proofs.YtonpbbhlmapbdaaGreatDoor.V
open Go Go.Wk
noncomputable section
abbrev N5 := Bool × Int × Int × Int × Int
abbrev N10 := Bool × Int × Int × Int × Int × N5
abbrev N11 := Bool × Int × Int × Int × Int × Bool × Int × Int × Int × Int × Int
def num_Bot.c {γ : Type} (k : N5 → γ)  : γ := k (true, 0, 0, 0, 0)
def num_Bot  : N5 := num_Bot.c id
def v9 (q : N5) : Value := .agg #[.bool q.1, .int .i64 q.2.1, .int .i64 q.2.2.1, .int .u64 q.2.2.2.1, .int .u64 q.2.2.2.2]
def num_Bot.F : FV := mkF cU (fun _ => true) (fun | () => v9 (num_Bot))
def L_num_Bot : TL := (23, num_Bot.F) :: L_B.ref_Rem
theorem num_Bot.p {γ : Type} (k : N5 → γ)  : num_Bot.c k  = k (num_Bot) := by
  unfold num_Bot num_Bot.c; (repeat' (first | (apply pc k) | (exact rfl)))
theorem num_Bot.r  : runF P G (tab L_B.ref_Rem) { merge := true, glue := true } 60 Tryz.f23 [] = num_Bot.c (fun q => some (v9 q))  := by kernel_rfl
theorem num_Bot.t : TabOK P G (tab L_num_Bot) :=
  TabOK_mkL C B.ref_Rem.t Tryz.func23 (by kernel_rfl) { merge := true, glue := true } (fun c _ => LoopsOK_nil c) 60 (by
    rintro ⟨⟩ h
    exact (num_Bot.r ).trans (num_Bot.p (fun q => some (.agg #[.bool (q).1, .int .i64 (q).2.1, .int .i64 (q).2.2.1, .int .u64 (q).2.2.2.1, .int .u64 (q).2.2.2.2] : Value)) ))
def num_Make.c0 {γ : Type} (k : N5 → γ) (a0 a1 b0 b1 : Int) (t1 : Int × Int) (t2 : Int × Bool) (t3 : Bool) (t4 : Int × Bool) (t5 t6 : Bool) (t7 : Int × Int) (t8 t9 : Int) : γ := bif t6
then k (num_Bot.1, num_Bot.2.1, num_Bot.2.2.1, num_Bot.2.2.2.1, num_Bot.2.2.2.2)
else k (false, t2.1, t4.1, t8, t9)
def num_Make.c {γ : Type} (k : N5 → γ) (a0 a1 b0 b1 : Int) : γ := let t1 := B.cong_Norm b0 b1; let t2 := B.cong_Up t1.1 t1.2 a0; let t3 := bif decide (a0 > a1) then true else !t2.2; let t4 := B.cong_Down t1.1 t1.2 a1; let t5 := bif t3 then true else !t4.2; let t6 := bif t5 then true else decide (t2.1 > t4.1); let t7 := B.cong_Const t2.1; let t8 := bif t2.1 == t4.1 then t7.1 else t1.1; let t9 := bif t2.1 == t4.1 then t7.2 else t1.2; num_Make.c0 k a0 a1 b0 b1 t1 t2 t3 t4 t5 t6 t7 t8 t9
def num_Make (a0 a1 b0 b1 : Int) : N5 := num_Make.c id a0 a1 b0 b1
def num_Make.F : FV := mkF (cP cV (cP cW cU)) (fun _ => true) (fun | ((a0, a1, ()), (b0, b1, ()), ()) => v9 (num_Make a0 a1 b0 b1))
def L_num_Make : TL := (25, num_Make.F) :: L_num_Bot
theorem num_Make.p0 {γ : Type} (k : N5 → γ) (a0 a1 b0 b1 t1 t2 t3 t4 t5 t6 t7 t8 t9) : num_Make.c0 k a0 a1 b0 b1 t1 t2 t3 t4 t5 t6 t7 t8 t9 = k (num_Make.c0 id a0 a1 b0 b1 t1 t2 t3 t4 t5 t6 t7 t8 t9) := by
  unfold num_Make.c0; (repeat' (first | (apply pc k) | (exact rfl)))
theorem num_Make.p {γ : Type} (k : N5 → γ) (a0 a1 b0 b1 : Int) : num_Make.c k a0 a1 b0 b1 = k (num_Make a0 a1 b0 b1) := by
  unfold num_Make num_Make.c; apply num_Make.p0
theorem num_Make.r (a0 a1 b0 b1 : Int) : runF P G (tab L_num_Bot) { merge := true, glue := true } 60 Tryz.f25 [wV a0 a1, wW b0 b1] = num_Make.c (fun q => some (v9 q)) a0 a1 b0 b1 := by kernel_rfl
theorem num_Make.t : TabOK P G (tab L_num_Make) :=
  TabOK_mkL C num_Bot.t Tryz.func25 (by kernel_rfl) { merge := true, glue := true } (fun c _ => LoopsOK_nil c) 60 (by
    rintro ⟨⟨a0, a1, ⟨⟩⟩, ⟨b0, b1, ⟨⟩⟩, ⟨⟩⟩ h
    exact (num_Make.r a0 a1 b0 b1).trans (num_Make.p (fun q => some (.agg #[.bool (q).1, .int .i64 (q).2.1, .int .i64 (q).2.2.1, .int .u64 (q).2.2.2.1, .int .u64 (q).2.2.2.2] : Value)) a0 a1 b0 b1))
def num_Range.c0 {γ : Type} (k : N5 → γ) (a b : Int) (t1 : N5) : γ := k (t1.1, t1.2.1, t1.2.2.1, t1.2.2.2.1, t1.2.2.2.2)
def num_Range.c {γ : Type} (k : N5 → γ) (a b : Int) : γ := let t1 := num_Make a b 1 0; num_Range.c0 k a b t1
def num_Range (a b : Int) : N5 := num_Range.c id a b
def num_Range.F : FV := mkF (cP (cI .i64) (cP (cI .i64) cU)) (fun _ => true) (fun | (a, b, ()) => v9 (num_Range a b))
def L_num_Range : TL := (29, num_Range.F) :: L_num_Make
theorem num_Range.p0 {γ : Type} (k : N5 → γ) (a b t1) : num_Range.c0 k a b t1 = k (num_Range.c0 id a b t1) := by
  unfold num_Range.c0; (repeat' (first | (apply pc k) | (exact rfl)))
theorem num_Range.p {γ : Type} (k : N5 → γ) (a b : Int) : num_Range.c k a b = k (num_Range a b) := by
  unfold num_Range num_Range.c; apply num_Range.p0
theorem num_Range.r (a b : Int) : runF P G (tab L_num_Make) { merge := true, glue := true } 60 Tryz.f29 [.int .i64 a, .int .i64 b] = num_Range.c (fun q => some (v9 q)) a b := by kernel_rfl
theorem num_Range.t : TabOK P G (tab L_num_Range) :=
  TabOK_mkL C num_Make.t Tryz.func29 (by kernel_rfl) { merge := true, glue := true } (fun c _ => LoopsOK_nil c) 60 (by
    rintro ⟨a, b, ⟨⟩⟩ h
    exact (num_Range.r a b).trans (num_Range.p (fun q => some (.agg #[.bool (q).1, .int .i64 (q).2.1, .int .i64 (q).2.2.1, .int .u64 (q).2.2.2.1, .int .u64 (q).2.2.2.2] : Value)) a b))
def num_Const.c0 {γ : Type} (k : N5 → γ) (a : Int) (t1 : N5) : γ := k (t1.1, t1.2.1, t1.2.2.1, t1.2.2.2.1, t1.2.2.2.2)
def num_Const.c {γ : Type} (k : N5 → γ) (a : Int) : γ := let t1 := num_Range a a; num_Const.c0 k a t1
def num_Const (a : Int) : N5 := num_Const.c id a
def num_Const.F : FV := mkF (cP (cI .i64) cU) (fun _ => true) (fun | (a, ()) => v9 (num_Const a))
def L_num_Const : TL := (20, num_Const.F) :: L_num_Range
theorem num_Const.p0 {γ : Type} (k : N5 → γ) (a t1) : num_Const.c0 k a t1 = k (num_Const.c0 id a t1) := by
  unfold num_Const.c0; (repeat' (first | (apply pc k) | (exact rfl)))
theorem num_Const.p {γ : Type} (k : N5 → γ) (a : Int) : num_Const.c k a = k (num_Const a) := by
  unfold num_Const num_Const.c; apply num_Const.p0
theorem num_Const.r (a : Int) : runF P G (tab L_num_Range) { merge := true, glue := true } 60 Tryz.f20 [.int .i64 a] = num_Const.c (fun q => some (v9 q)) a := by kernel_rfl
theorem num_Const.t : TabOK P G (tab L_num_Const) :=
  TabOK_mkL C num_Range.t Tryz.func20 (by kernel_rfl) { merge := true, glue := true } (fun c _ => LoopsOK_nil c) 60 (by
    rintro ⟨a, ⟨⟩⟩ h
    exact (num_Const.r a).trans (num_Const.p (fun q => some (.agg #[.bool (q).1, .int .i64 (q).2.1, .int .i64 (q).2.2.1, .int .u64 (q).2.2.2.1, .int .u64 (q).2.2.2.2] : Value)) a))
def num_Top.c0 {γ : Type} (k : N5 → γ)  (t1 : N5) : γ := k (t1.1, t1.2.1, t1.2.2.1, t1.2.2.2.1, t1.2.2.2.2)
def num_Top.c {γ : Type} (k : N5 → γ)  : γ := let t1 := num_Range (-9223372036854775808) 9223372036854775807; num_Top.c0 k  t1
def num_Top  : N5 := num_Top.c id
def num_Top.F : FV := mkF cU (fun _ => true) (fun | () => v9 (num_Top))
def L_num_Top : TL := (21, num_Top.F) :: L_num_Const
theorem num_Top.p0 {γ : Type} (k : N5 → γ) (t1) : num_Top.c0 k  t1 = k (num_Top.c0 id  t1) := by
  unfold num_Top.c0; (repeat' (first | (apply pc k) | (exact rfl)))
theorem num_Top.p {γ : Type} (k : N5 → γ)  : num_Top.c k  = k (num_Top) := by
  unfold num_Top num_Top.c; apply num_Top.p0
theorem num_Top.r  : runF P G (tab L_num_Const) { merge := true, glue := true } 60 Tryz.f21 [] = num_Top.c (fun q => some (v9 q))  := by kernel_rfl
theorem num_Top.t : TabOK P G (tab L_num_Top) :=
  TabOK_mkL C num_Const.t Tryz.func21 (by kernel_rfl) { merge := true, glue := true } (fun c _ => LoopsOK_nil c) 60 (by
    rintro ⟨⟩ h
    exact (num_Top.r ).trans (num_Top.p (fun q => some (.agg #[.bool (q).1, .int .i64 (q).2.1, .int .i64 (q).2.2.1, .int .u64 (q).2.2.2.1, .int .u64 (q).2.2.2.2] : Value)) ))
def num_Norm.c0 {γ : Type} (k : N5 → γ) (a0 : Bool) (a1 a2 a3 a4 : Int) (t1 : N5) : γ := bif a0
then k (num_Bot.1, num_Bot.2.1, num_Bot.2.2.1, num_Bot.2.2.2.1, num_Bot.2.2.2.2)
else k (t1.1, t1.2.1, t1.2.2.1, t1.2.2.2.1, t1.2.2.2.2)
def num_Norm.c {γ : Type} (k : N5 → γ) (a0 : Bool) (a1 a2 a3 a4 : Int) : γ := let t1 := num_Make a1 a2 a3 a4; num_Norm.c0 k a0 a1 a2 a3 a4 t1
def num_Norm (a0 : Bool) (a1 a2 a3 a4 : Int) : N5 := num_Norm.c id a0 a1 a2 a3 a4
def num_Norm.F : FV := mkF (cP cN cU) (fun _ => true) (fun | ((a0, a1, a2, a3, a4, ()), ()) => v9 (num_Norm a0 a1 a2 a3 a4))
def L_num_Norm : TL := (14, num_Norm.F) :: L_num_Top
theorem num_Norm.p0 {γ : Type} (k : N5 → γ) (a0 a1 a2 a3 a4 t1) : num_Norm.c0 k a0 a1 a2 a3 a4 t1 = k (num_Norm.c0 id a0 a1 a2 a3 a4 t1) := by
  unfold num_Norm.c0; (repeat' (first | (apply pc k) | (exact rfl)))
theorem num_Norm.p {γ : Type} (k : N5 → γ) (a0 : Bool) (a1 a2 a3 a4 : Int) : num_Norm.c k a0 a1 a2 a3 a4 = k (num_Norm a0 a1 a2 a3 a4) := by
  unfold num_Norm num_Norm.c; apply num_Norm.p0
theorem num_Norm.r (a0 : Bool) (a1 a2 a3 a4 : Int) : runF P G (tab L_num_Top) { merge := true, glue := true } 60 Tryz.f14 [wN a0 a1 a2 a3 a4] = num_Norm.c (fun q => some (v9 q)) a0 a1 a2 a3 a4 := by kernel_rfl
theorem num_Norm.t : TabOK P G (tab L_num_Norm) :=
  TabOK_mkL C num_Top.t Tryz.func14 (by kernel_rfl) { merge := true, glue := true } (fun c _ => LoopsOK_nil c) 60 (by
    rintro ⟨⟨a0, a1, a2, a3, a4, ⟨⟩⟩, ⟨⟩⟩ h
    exact (num_Norm.r a0 a1 a2 a3 a4).trans (num_Norm.p (fun q => some (.agg #[.bool (q).1, .int .i64 (q).2.1, .int .i64 (q).2.2.1, .int .u64 (q).2.2.2.1, .int .u64 (q).2.2.2.2] : Value)) a0 a1 a2 a3 a4))
def num_Has.c0 {γ : Type} (k : Bool → γ) (a0 : Bool) (a1 a2 a3 a4 b : Int) (t1 t2 t3 t4 : Bool) : γ := k (t4)
def num_Has.c {γ : Type} (k : Bool → γ) (a0 : Bool) (a1 a2 a3 a4 b : Int) : γ := let t1 := A.ival_Has a1 a2 b; let t2 := bif !a0 then t1 else false; let t3 := B.cong_Has a3 a4 b; let t4 := bif t2 then t3 else false; num_Has.c0 k a0 a1 a2 a3 a4 b t1 t2 t3 t4
def num_Has (a0 : Bool) (a1 a2 a3 a4 b : Int) : Bool := num_Has.c id a0 a1 a2 a3 a4 b
def num_Has.F : FV := mkF (cP cN (cP (cI .i64) cU)) (fun _ => true) (fun | ((a0, a1, a2, a3, a4, ()), b, ()) => .bool (num_Has a0 a1 a2 a3 a4 b))
def L_num_Has : TL := (31, num_Has.F) :: L_num_Norm
theorem num_Has.p0 {γ : Type} (k : Bool → γ) (a0 a1 a2 a3 a4 b t1 t2 t3 t4) : num_Has.c0 k a0 a1 a2 a3 a4 b t1 t2 t3 t4 = k (num_Has.c0 id a0 a1 a2 a3 a4 b t1 t2 t3 t4) := by
  unfold num_Has.c0; (repeat' (first | (apply pc k) | (exact rfl)))
theorem num_Has.p {γ : Type} (k : Bool → γ) (a0 : Bool) (a1 a2 a3 a4 b : Int) : num_Has.c k a0 a1 a2 a3 a4 b = k (num_Has a0 a1 a2 a3 a4 b) := by
  unfold num_Has num_Has.c; apply num_Has.p0
theorem num_Has.r (a0 : Bool) (a1 a2 a3 a4 b : Int) : runF P G (tab L_num_Norm) { merge := true, glue := true } 60 Tryz.f31 [wN a0 a1 a2 a3 a4, .int .i64 b] = num_Has.c (fun q => some (.bool (q) : Value)) a0 a1 a2 a3 a4 b := by kernel_rfl
theorem num_Has.t : TabOK P G (tab L_num_Has) :=
  TabOK_mkL C num_Norm.t Tryz.func31 (by kernel_rfl) { merge := true, glue := true } (fun c _ => LoopsOK_nil c) 60 (by
    rintro ⟨⟨a0, a1, a2, a3, a4, ⟨⟩⟩, b, ⟨⟩⟩ h
    exact (num_Has.r a0 a1 a2 a3 a4 b).trans (num_Has.p (fun q => some (.bool (q) : Value)) a0 a1 a2 a3 a4 b))
def num_Meet.c0 {γ : Type} (n : γ) (k : N5 → γ) (a0 : Bool) (a1 a2 a3 a4 : Int) (b0 : Bool) (b1 b2 b3 b4 : Int) (t1 t2 : N5) (t3 t4 : Bool) (t5 : Int × Int × Bool) (t6 : Bool) (t7 : Int × Int) (t8 : N5) : γ := bif t3
then bif t6
then k (num_Bot.1, num_Bot.2.1, num_Bot.2.2.1, num_Bot.2.2.2.1, num_Bot.2.2.2.2)
else k (t8.1, t8.2.1, t8.2.2.1, t8.2.2.2.1, t8.2.2.2.2)
else n
def num_Meet.c {γ : Type} (n : γ) (k : N5 → γ) (a0 : Bool) (a1 a2 a3 a4 : Int) (b0 : Bool) (b1 b2 b3 b4 : Int) : γ := let t1 := num_Norm a0 a1 a2 a3 a4; let t2 := num_Norm b0 b1 b2 b3 b4; let t3 := B.cong_Meet.ok t1.2.2.2.1 t1.2.2.2.2 t2.2.2.2.1 t2.2.2.2.2; let t4 := bif t1.1 then true else t2.1; let t5 := B.cong_Meet t1.2.2.2.1 t1.2.2.2.2 t2.2.2.2.1 t2.2.2.2.2; let t6 := bif t4 then true else !t5.2.2; let t7 := A.ival_Meet t1.2.1 t1.2.2.1 t2.2.1 t2.2.2.1; let t8 := num_Make t7.1 t7.2 t5.1 t5.2.1; num_Meet.c0 n k a0 a1 a2 a3 a4 b0 b1 b2 b3 b4 t1 t2 t3 t4 t5 t6 t7 t8
def num_Meet.ok (a0 : Bool) (a1 a2 a3 a4 : Int) (b0 : Bool) (b1 b2 b3 b4 : Int) : Bool := num_Meet.c false (fun _ => true) a0 a1 a2 a3 a4 b0 b1 b2 b3 b4
def num_Meet (a0 : Bool) (a1 a2 a3 a4 : Int) (b0 : Bool) (b1 b2 b3 b4 : Int) : N5 := num_Meet.c (false, 0, 0, 0, 0) id a0 a1 a2 a3 a4 b0 b1 b2 b3 b4
def num_Meet.F : FV := mkF (cP cN (cP cN cU)) (fun | ((a0, a1, a2, a3, a4, ()), (b0, b1, b2, b3, b4, ()), ()) => num_Meet.ok a0 a1 a2 a3 a4 b0 b1 b2 b3 b4) (fun | ((a0, a1, a2, a3, a4, ()), (b0, b1, b2, b3, b4, ()), ()) => v9 (num_Meet a0 a1 a2 a3 a4 b0 b1 b2 b3 b4))
def L_num_Meet : TL := (39, num_Meet.F) :: L_num_Has
theorem num_Meet.p0 {γ : Type} (k : N5 → γ) (a0 a1 a2 a3 a4 b0 b1 b2 b3 b4 t1 t2 t3 t4 t5 t6 t7 t8) : num_Meet.c0 false (fun _ => true) a0 a1 a2 a3 a4 b0 b1 b2 b3 b4 t1 t2 t3 t4 t5 t6 t7 t8 = true → num_Meet.c0 none (fun q => some (k q)) a0 a1 a2 a3 a4 b0 b1 b2 b3 b4 t1 t2 t3 t4 t5 t6 t7 t8 = some (k (num_Meet.c0 (false, 0, 0, 0, 0) id a0 a1 a2 a3 a4 b0 b1 b2 b3 b4 t1 t2 t3 t4 t5 t6 t7 t8)) := by
  unfold num_Meet.c0; (repeat' (first | (apply pn k) | (exact pn_none _ _) | (exact pn_leaf k _)))
theorem num_Meet.p {γ : Type} (k : N5 → γ) (a0 : Bool) (a1 a2 a3 a4 : Int) (b0 : Bool) (b1 b2 b3 b4 : Int) (h : num_Meet.ok a0 a1 a2 a3 a4 b0 b1 b2 b3 b4 = true) : num_Meet.c none (fun q => some (k q)) a0 a1 a2 a3 a4 b0 b1 b2 b3 b4 = some (k (num_Meet a0 a1 a2 a3 a4 b0 b1 b2 b3 b4)) := by
  revert h; unfold num_Meet.ok num_Meet num_Meet.c; apply num_Meet.p0
theorem num_Meet.r (a0 : Bool) (a1 a2 a3 a4 : Int) (b0 : Bool) (b1 b2 b3 b4 : Int) : runF P G (tab L_num_Has) { merge := true, glue := true } 60 Tryz.f39 [wN a0 a1 a2 a3 a4, wN b0 b1 b2 b3 b4] = num_Meet.c none (fun q => some (v9 q)) a0 a1 a2 a3 a4 b0 b1 b2 b3 b4 := by kernel_rfl
theorem num_Meet.t : TabOK P G (tab L_num_Meet) :=
  TabOK_mkL C num_Has.t Tryz.func39 (by kernel_rfl) { merge := true, glue := true } (fun c _ => LoopsOK_nil c) 60 (by
    rintro ⟨⟨a0, a1, a2, a3, a4, ⟨⟩⟩, ⟨b0, b1, b2, b3, b4, ⟨⟩⟩, ⟨⟩⟩ h
    exact (num_Meet.r a0 a1 a2 a3 a4 b0 b1 b2 b3 b4).trans (num_Meet.p v9 a0 a1 a2 a3 a4 b0 b1 b2 b3 b4 h))
def num_NonZero.c0 {γ : Type} (k : N5 → γ) (a0 : Bool) (a1 a2 a3 a4 : Int) (t1 : N5) (t2 t3 t4 : Bool) (t5 t6 : N5) : γ := bif t3
then k (t1.1, t1.2.1, t1.2.2.1, t1.2.2.2.1, t1.2.2.2.2)
else bif t4
then k (num_Bot.1, num_Bot.2.1, num_Bot.2.2.1, num_Bot.2.2.2.1, num_Bot.2.2.2.2)
else bif t1.2.1 == 0
then k (t5.1, t5.2.1, t5.2.2.1, t5.2.2.2.1, t5.2.2.2.2)
else k (t6.1, t6.2.1, t6.2.2.1, t6.2.2.2.1, t6.2.2.2.2)
def num_NonZero.c {γ : Type} (k : N5 → γ) (a0 : Bool) (a1 a2 a3 a4 : Int) : γ := let t1 := num_Norm a0 a1 a2 a3 a4; let t2 := bif t1.2.1 != 0 then t1.2.2.1 != 0 else false; let t3 := bif t1.1 then true else t2; let t4 := bif t1.2.1 == 0 then t1.2.2.1 == 0 else false; let t5 := num_Make 1 t1.2.2.1 t1.2.2.2.1 t1.2.2.2.2; let t6 := num_Make t1.2.1 (-1) t1.2.2.2.1 t1.2.2.2.2; num_NonZero.c0 k a0 a1 a2 a3 a4 t1 t2 t3 t4 t5 t6
def num_NonZero (a0 : Bool) (a1 a2 a3 a4 : Int) : N5 := num_NonZero.c id a0 a1 a2 a3 a4
def num_NonZero.F : FV := mkF (cP cN cU) (fun _ => true) (fun | ((a0, a1, a2, a3, a4, ()), ()) => v9 (num_NonZero a0 a1 a2 a3 a4))
def L_num_NonZero : TL := (35, num_NonZero.F) :: L_num_Meet
theorem num_NonZero.p0 {γ : Type} (k : N5 → γ) (a0 a1 a2 a3 a4 t1 t2 t3 t4 t5 t6) : num_NonZero.c0 k a0 a1 a2 a3 a4 t1 t2 t3 t4 t5 t6 = k (num_NonZero.c0 id a0 a1 a2 a3 a4 t1 t2 t3 t4 t5 t6) := by
  unfold num_NonZero.c0; (repeat' (first | (apply pc k) | (exact rfl)))
theorem num_NonZero.p {γ : Type} (k : N5 → γ) (a0 : Bool) (a1 a2 a3 a4 : Int) : num_NonZero.c k a0 a1 a2 a3 a4 = k (num_NonZero a0 a1 a2 a3 a4) := by
  unfold num_NonZero num_NonZero.c; apply num_NonZero.p0
theorem num_NonZero.r (a0 : Bool) (a1 a2 a3 a4 : Int) : runF P G (tab L_num_Meet) { merge := true, glue := true } 60 Tryz.f35 [wN a0 a1 a2 a3 a4] = num_NonZero.c (fun q => some (v9 q)) a0 a1 a2 a3 a4 := by kernel_rfl
theorem num_NonZero.t : TabOK P G (tab L_num_NonZero) :=
  TabOK_mkL C num_Meet.t Tryz.func35 (by kernel_rfl) { merge := true, glue := true } (fun c _ => LoopsOK_nil c) 60 (by
    rintro ⟨⟨a0, a1, a2, a3, a4, ⟨⟩⟩, ⟨⟩⟩ h
    exact (num_NonZero.r a0 a1 a2 a3 a4).trans (num_NonZero.p (fun q => some (.agg #[.bool (q).1, .int .i64 (q).2.1, .int .i64 (q).2.2.1, .int .u64 (q).2.2.2.1, .int .u64 (q).2.2.2.2] : Value)) a0 a1 a2 a3 a4))
def num_op1.c0 {γ : Type} (k : Int × Int × Bool → γ) (a0 a1 b0 b1 : Int) (t1 : Int × Int × Bool) : γ := k (t1.1, t1.2.1, t1.2.2)
def num_op1.c {γ : Type} (k : Int × Int × Bool → γ) (a0 a1 b0 b1 : Int) : γ := let t1 := A.ival_Neg a0 a1; num_op1.c0 k a0 a1 b0 b1 t1
def num_op1 (a0 a1 b0 b1 : Int) : Int × Int × Bool := num_op1.c id a0 a1 b0 b1
def num_op1.F : FV := mkF (cP cV (cP cV cU)) (fun _ => true) (fun | ((a0, a1, ()), (b0, b1, ()), ()) => v4 (num_op1 a0 a1 b0 b1))
def L_num_op1 : TL := (114, num_op1.F) :: L_num_NonZero
theorem num_op1.p0 {γ : Type} (k : Int × Int × Bool → γ) (a0 a1 b0 b1 t1) : num_op1.c0 k a0 a1 b0 b1 t1 = k (num_op1.c0 id a0 a1 b0 b1 t1) := by
  unfold num_op1.c0; (repeat' (first | (apply pc k) | (exact rfl)))
theorem num_op1.p {γ : Type} (k : Int × Int × Bool → γ) (a0 a1 b0 b1 : Int) : num_op1.c k a0 a1 b0 b1 = k (num_op1 a0 a1 b0 b1) := by
  unfold num_op1 num_op1.c; apply num_op1.p0
theorem num_op1.r (a0 a1 b0 b1 : Int) : runF P G (tab L_num_NonZero) { merge := true, glue := true } 60 Tryz.f114 [wV a0 a1, wV b0 b1] = num_op1.c (fun q => some (v4 q)) a0 a1 b0 b1 := by kernel_rfl
theorem num_op1.t : TabOK P G (tab L_num_op1) :=
  TabOK_mkL C num_NonZero.t Tryz.func114 (by kernel_rfl) { merge := true, glue := true } (fun c _ => LoopsOK_nil c) 60 (by
    rintro ⟨⟨a0, a1, ⟨⟩⟩, ⟨b0, b1, ⟨⟩⟩, ⟨⟩⟩ h
    exact (num_op1.r a0 a1 b0 b1).trans (num_op1.p (fun q => some (.tuple #[.agg #[.int .i64 (q).1, .int .i64 (q).2.1], .bool (q).2.2] : Value)) a0 a1 b0 b1))
def num_op2.c0 {γ : Type} (n : γ) (k : Int × Int → γ) (a0 a1 b0 b1 : Int) (c t1 : Bool) (t2 : Int × Int) : γ := bif t1
then k (t2.1, t2.2)
else n
def num_op2.c {γ : Type} (n : γ) (k : Int × Int → γ) (a0 a1 b0 b1 : Int) (c : Bool) : γ := let t1 := B.cong_Neg.ok a0 a1 c; let t2 := B.cong_Neg a0 a1 c; num_op2.c0 n k a0 a1 b0 b1 c t1 t2
def num_op2.ok (a0 a1 b0 b1 : Int) (c : Bool) : Bool := num_op2.c false (fun _ => true) a0 a1 b0 b1 c
def num_op2 (a0 a1 b0 b1 : Int) (c : Bool) : Int × Int := num_op2.c (0, 0) id a0 a1 b0 b1 c
def num_op2.F : FV := mkF (cP cW (cP cW (cP cB cU))) (fun | ((a0, a1, ()), (b0, b1, ()), c, ()) => num_op2.ok a0 a1 b0 b1 c) (fun | ((a0, a1, ()), (b0, b1, ()), c, ()) => v6 (num_op2 a0 a1 b0 b1 c))
def L_num_op2 : TL := (116, num_op2.F) :: L_num_op1
theorem num_op2.p0 {γ : Type} (k : Int × Int → γ) (a0 a1 b0 b1 c t1 t2) : num_op2.c0 false (fun _ => true) a0 a1 b0 b1 c t1 t2 = true → num_op2.c0 none (fun q => some (k q)) a0 a1 b0 b1 c t1 t2 = some (k (num_op2.c0 (0, 0) id a0 a1 b0 b1 c t1 t2)) := by
  unfold num_op2.c0; (repeat' (first | (apply pn k) | (exact pn_none _ _) | (exact pn_leaf k _)))
theorem num_op2.p {γ : Type} (k : Int × Int → γ) (a0 a1 b0 b1 : Int) (c : Bool) (h : num_op2.ok a0 a1 b0 b1 c = true) : num_op2.c none (fun q => some (k q)) a0 a1 b0 b1 c = some (k (num_op2 a0 a1 b0 b1 c)) := by
  revert h; unfold num_op2.ok num_op2 num_op2.c; apply num_op2.p0
theorem num_op2.r (a0 a1 b0 b1 : Int) (c : Bool) : runF P G (tab L_num_op1) { merge := true, glue := true } 60 Tryz.f116 [wW a0 a1, wW b0 b1, .bool c] = num_op2.c none (fun q => some (v6 q)) a0 a1 b0 b1 c := by kernel_rfl
theorem num_op2.t : TabOK P G (tab L_num_op2) :=
  TabOK_mkL C num_op1.t Tryz.func116 (by kernel_rfl) { merge := true, glue := true } (fun c _ => LoopsOK_nil c) 60 (by
    rintro ⟨⟨a0, a1, ⟨⟩⟩, ⟨b0, b1, ⟨⟩⟩, c, ⟨⟩⟩ h
    exact (num_op2.r a0 a1 b0 b1 c).trans (num_op2.p v6 a0 a1 b0 b1 c h))
def num_op3.c0 {γ : Type} (n : γ) (k : Int × Int → γ) (a0 a1 b0 b1 : Int) (c t1 : Bool) (t2 : Int × Int) : γ := bif t1
then k (t2.1, t2.2)
else n
def num_op3.c {γ : Type} (n : γ) (k : Int × Int → γ) (a0 a1 b0 b1 : Int) (c : Bool) : γ := let t1 := B.cong_Div.ok a0 a1 b0 b1; let t2 := B.cong_Div a0 a1 b0 b1; num_op3.c0 n k a0 a1 b0 b1 c t1 t2
def num_op3.ok (a0 a1 b0 b1 : Int) (c : Bool) : Bool := num_op3.c false (fun _ => true) a0 a1 b0 b1 c
def num_op3 (a0 a1 b0 b1 : Int) (c : Bool) : Int × Int := num_op3.c (0, 0) id a0 a1 b0 b1 c
def num_op3.F : FV := mkF (cP cW (cP cW (cP cB cU))) (fun | ((a0, a1, ()), (b0, b1, ()), c, ()) => num_op3.ok a0 a1 b0 b1 c) (fun | ((a0, a1, ()), (b0, b1, ()), c, ()) => v6 (num_op3 a0 a1 b0 b1 c))
def L_num_op3 : TL := (125, num_op3.F) :: L_num_op2
theorem num_op3.p0 {γ : Type} (k : Int × Int → γ) (a0 a1 b0 b1 c t1 t2) : num_op3.c0 false (fun _ => true) a0 a1 b0 b1 c t1 t2 = true → num_op3.c0 none (fun q => some (k q)) a0 a1 b0 b1 c t1 t2 = some (k (num_op3.c0 (0, 0) id a0 a1 b0 b1 c t1 t2)) := by
  unfold num_op3.c0; (repeat' (first | (apply pn k) | (exact pn_none _ _) | (exact pn_leaf k _)))
theorem num_op3.p {γ : Type} (k : Int × Int → γ) (a0 a1 b0 b1 : Int) (c : Bool) (h : num_op3.ok a0 a1 b0 b1 c = true) : num_op3.c none (fun q => some (k q)) a0 a1 b0 b1 c = some (k (num_op3 a0 a1 b0 b1 c)) := by
  revert h; unfold num_op3.ok num_op3 num_op3.c; apply num_op3.p0
theorem num_op3.r (a0 a1 b0 b1 : Int) (c : Bool) : runF P G (tab L_num_op2) { merge := true, glue := true } 60 Tryz.f125 [wW a0 a1, wW b0 b1, .bool c] = num_op3.c none (fun q => some (v6 q)) a0 a1 b0 b1 c := by kernel_rfl
theorem num_op3.t : TabOK P G (tab L_num_op3) :=
  TabOK_mkL C num_op2.t Tryz.func125 (by kernel_rfl) { merge := true, glue := true } (fun c _ => LoopsOK_nil c) 60 (by
    rintro ⟨⟨a0, a1, ⟨⟩⟩, ⟨b0, b1, ⟨⟩⟩, c, ⟨⟩⟩ h
    exact (num_op3.r a0 a1 b0 b1 c).trans (num_op3.p v6 a0 a1 b0 b1 c h))
def num_op4.c0 {γ : Type} (n : γ) (k : Int × Int → γ) (a0 a1 b0 b1 : Int) (c t1 : Bool) (t2 : Int × Int) : γ := bif t1
then k (t2.1, t2.2)
else n
def num_op4.c {γ : Type} (n : γ) (k : Int × Int → γ) (a0 a1 b0 b1 : Int) (c : Bool) : γ := let t1 := B.cong_Rem.ok a0 a1 b0 b1; let t2 := B.cong_Rem a0 a1 b0 b1; num_op4.c0 n k a0 a1 b0 b1 c t1 t2
def num_op4.ok (a0 a1 b0 b1 : Int) (c : Bool) : Bool := num_op4.c false (fun _ => true) a0 a1 b0 b1 c
def num_op4 (a0 a1 b0 b1 : Int) (c : Bool) : Int × Int := num_op4.c (0, 0) id a0 a1 b0 b1 c
def num_op4.F : FV := mkF (cP cW (cP cW (cP cB cU))) (fun | ((a0, a1, ()), (b0, b1, ()), c, ()) => num_op4.ok a0 a1 b0 b1 c) (fun | ((a0, a1, ()), (b0, b1, ()), c, ()) => v6 (num_op4 a0 a1 b0 b1 c))
def L_num_op4 : TL := (128, num_op4.F) :: L_num_op3
theorem num_op4.p0 {γ : Type} (k : Int × Int → γ) (a0 a1 b0 b1 c t1 t2) : num_op4.c0 false (fun _ => true) a0 a1 b0 b1 c t1 t2 = true → num_op4.c0 none (fun q => some (k q)) a0 a1 b0 b1 c t1 t2 = some (k (num_op4.c0 (0, 0) id a0 a1 b0 b1 c t1 t2)) := by
  unfold num_op4.c0; (repeat' (first | (apply pn k) | (exact pn_none _ _) | (exact pn_leaf k _)))
theorem num_op4.p {γ : Type} (k : Int × Int → γ) (a0 a1 b0 b1 : Int) (c : Bool) (h : num_op4.ok a0 a1 b0 b1 c = true) : num_op4.c none (fun q => some (k q)) a0 a1 b0 b1 c = some (k (num_op4 a0 a1 b0 b1 c)) := by
  revert h; unfold num_op4.ok num_op4 num_op4.c; apply num_op4.p0
theorem num_op4.r (a0 a1 b0 b1 : Int) (c : Bool) : runF P G (tab L_num_op3) { merge := true, glue := true } 60 Tryz.f128 [wW a0 a1, wW b0 b1, .bool c] = num_op4.c none (fun q => some (v6 q)) a0 a1 b0 b1 c := by kernel_rfl
theorem num_op4.t : TabOK P G (tab L_num_op4) :=
  TabOK_mkL C num_op3.t Tryz.func128 (by kernel_rfl) { merge := true, glue := true } (fun c _ => LoopsOK_nil c) 60 (by
    rintro ⟨⟨a0, a1, ⟨⟩⟩, ⟨b0, b1, ⟨⟩⟩, c, ⟨⟩⟩ h
    exact (num_op4.r a0 a1 b0 b1 c).trans (num_op4.p v6 a0 a1 b0 b1 c h))
def num_Apply.c0 {γ : Type} (n : γ) (k : Bool × Int × Int × Int × Int × Int → γ) (a : Int) (b0 : Bool) (b1 b2 b3 b4 : Int) (c0 : Bool) (c1 c2 c3 c4 : Int) (t1 t2 : N5) (t3 t4 : Bool) (t5 : Int × Int × Bool) (t6 : Bool) (t7 : Int × Int) (t8 : N5) (t9 : Int × Int × Bool) (t10 : Bool) (t11 : Int × Int) (t12 : N5) (t13 : Int × Int × Bool) (t14 : Bool) (t15 : Int × Int) (t16 : N5) (t17 : Int × Int × Bool) (t18 : Bool) (t19 : Int × Int) (t20 t21 : N5) (t22 t23 : Bool) (t24 : Int × Int × Bool) (t25 : Bool) (t26 : Int × Int) (t27 : N5) (t28 : Int × Int × Bool) (t29 : Bool) (t30 : Int × Int) (t31 : N5) : γ := bif a == 1
then bif t4
then k (num_Bot.1, num_Bot.2.1, num_Bot.2.2.1, num_Bot.2.2.2.1, num_Bot.2.2.2.2, 0)
else bif t6
then k (t8.1, t8.2.1, t8.2.2.1, t8.2.2.2.1, t8.2.2.2.2, 0)
else n
else bif a == 3
then bif t4
then k (num_Bot.1, num_Bot.2.1, num_Bot.2.2.1, num_Bot.2.2.2.1, num_Bot.2.2.2.2, 0)
else bif t10
then k (t12.1, t12.2.1, t12.2.2.1, t12.2.2.2.1, t12.2.2.2.2, 0)
else n
else bif a == 4
then bif t4
then k (num_Bot.1, num_Bot.2.1, num_Bot.2.2.1, num_Bot.2.2.2.1, num_Bot.2.2.2.2, 0)
else bif t14
then k (t16.1, t16.2.1, t16.2.2.1, t16.2.2.2.1, t16.2.2.2.2, 0)
else n
else bif a == 5
then bif t4
then k (num_Bot.1, num_Bot.2.1, num_Bot.2.2.1, num_Bot.2.2.2.1, num_Bot.2.2.2.2, 0)
else bif t18
then k (t20.1, t20.2.1, t20.2.2.1, t20.2.2.2.1, t20.2.2.2.2, 0)
else n
else bif a == 6
then bif t23
then k (num_Bot.1, num_Bot.2.1, num_Bot.2.2.1, num_Bot.2.2.2.1, num_Bot.2.2.2.2, 0)
else bif t25
then k (t27.1, t27.2.1, t27.2.2.1, t27.2.2.2.1, t27.2.2.2.2, 0)
else n
else bif a == 7
then bif t23
then k (num_Bot.1, num_Bot.2.1, num_Bot.2.2.1, num_Bot.2.2.2.1, num_Bot.2.2.2.2, 0)
else bif t29
then k (t31.1, t31.2.1, t31.2.2.1, t31.2.2.2.1, t31.2.2.2.2, 0)
else n
else k (false, 0, 0, 0, 0, 1)
def num_Apply.c {γ : Type} (n : γ) (k : Bool × Int × Int × Int × Int × Int → γ) (a : Int) (b0 : Bool) (b1 b2 b3 b4 : Int) (c0 : Bool) (c1 c2 c3 c4 : Int) : γ := let t1 := num_Norm b0 b1 b2 b3 b4; let t2 := num_Norm c0 c1 c2 c3 c4; let t3 := bif t2.1 then a != 1 else false; let t4 := bif t1.1 then true else t3; let t5 := num_op1 t1.2.1 t1.2.2.1 t2.2.1 t2.2.2.1; let t6 := num_op2.ok t1.2.2.2.1 t1.2.2.2.2 t2.2.2.2.1 t2.2.2.2.2 t5.2.2; let t7 := num_op2 t1.2.2.2.1 t1.2.2.2.2 t2.2.2.2.1 t2.2.2.2.2 t5.2.2; let t8 := num_Make t5.1 t5.2.1 t7.1 t7.2; let t9 := A.ival_Add t1.2.1 t1.2.2.1 t2.2.1 t2.2.2.1; let t10 := B.cong_Add.ok t1.2.2.2.1 t1.2.2.2.2 t2.2.2.2.1 t2.2.2.2.2 t9.2.2; let t11 := B.cong_Add t1.2.2.2.1 t1.2.2.2.2 t2.2.2.2.1 t2.2.2.2.2 t9.2.2; let t12 := num_Make t9.1 t9.2.1 t11.1 t11.2; let t13 := A.ival_Sub t1.2.1 t1.2.2.1 t2.2.1 t2.2.2.1; let t14 := B.cong_Sub.ok t1.2.2.2.1 t1.2.2.2.2 t2.2.2.2.1 t2.2.2.2.2 t13.2.2; let t15 := B.cong_Sub t1.2.2.2.1 t1.2.2.2.2 t2.2.2.2.1 t2.2.2.2.2 t13.2.2; let t16 := num_Make t13.1 t13.2.1 t15.1 t15.2; let t17 := A.ival_Mul t1.2.1 t1.2.2.1 t2.2.1 t2.2.2.1; let t18 := B.cong_Mul.ok t1.2.2.2.1 t1.2.2.2.2 t2.2.2.2.1 t2.2.2.2.2 t17.2.2; let t19 := B.cong_Mul t1.2.2.2.1 t1.2.2.2.2 t2.2.2.2.1 t2.2.2.2.2 t17.2.2; let t20 := num_Make t17.1 t17.2.1 t19.1 t19.2; let t21 := num_NonZero t2.1 t2.2.1 t2.2.2.1 t2.2.2.2.1 t2.2.2.2.2; let t22 := bif t21.1 then a != 1 else false; let t23 := bif t1.1 then true else t22; let t24 := A.ival_Div t1.2.1 t1.2.2.1 t21.2.1 t21.2.2.1; let t25 := num_op3.ok t1.2.2.2.1 t1.2.2.2.2 t21.2.2.2.1 t21.2.2.2.2 t24.2.2; let t26 := num_op3 t1.2.2.2.1 t1.2.2.2.2 t21.2.2.2.1 t21.2.2.2.2 t24.2.2; let t27 := num_Make t24.1 t24.2.1 t26.1 t26.2; let t28 := A.ival_Rem t1.2.1 t1.2.2.1 t21.2.1 t21.2.2.1; let t29 := num_op4.ok t1.2.2.2.1 t1.2.2.2.2 t21.2.2.2.1 t21.2.2.2.2 t28.2.2; let t30 := num_op4 t1.2.2.2.1 t1.2.2.2.2 t21.2.2.2.1 t21.2.2.2.2 t28.2.2; let t31 := num_Make t28.1 t28.2.1 t30.1 t30.2; num_Apply.c0 n k a b0 b1 b2 b3 b4 c0 c1 c2 c3 c4 t1 t2 t3 t4 t5 t6 t7 t8 t9 t10 t11 t12 t13 t14 t15 t16 t17 t18 t19 t20 t21 t22 t23 t24 t25 t26 t27 t28 t29 t30 t31
def num_Apply.ok (a : Int) (b0 : Bool) (b1 b2 b3 b4 : Int) (c0 : Bool) (c1 c2 c3 c4 : Int) : Bool := num_Apply.c false (fun _ => true) a b0 b1 b2 b3 b4 c0 c1 c2 c3 c4
def num_Apply (a : Int) (b0 : Bool) (b1 b2 b3 b4 : Int) (c0 : Bool) (c1 c2 c3 c4 : Int) : Bool × Int × Int × Int × Int × Int := num_Apply.c (false, 0, 0, 0, 0, 0) id a b0 b1 b2 b3 b4 c0 c1 c2 c3 c4
def v10 (q : Bool × Int × Int × Int × Int × Int) : Value := .tuple #[.agg #[.bool q.1, .int .i64 q.2.1, .int .i64 q.2.2.1, .int .u64 q.2.2.2.1, .int .u64 q.2.2.2.2.1], .int .i64 q.2.2.2.2.2]
def num_Apply.F : FV := mkF (cP (cI .i64) (cP cN (cP cN cU))) (fun | (a, (b0, b1, b2, b3, b4, ()), (c0, c1, c2, c3, c4, ()), ()) => num_Apply.ok a b0 b1 b2 b3 b4 c0 c1 c2 c3 c4) (fun | (a, (b0, b1, b2, b3, b4, ()), (c0, c1, c2, c3, c4, ()), ()) => v10 (num_Apply a b0 b1 b2 b3 b4 c0 c1 c2 c3 c4))
def L_num_Apply : TL := (16, num_Apply.F) :: L_num_op4
theorem num_Apply.p0 {γ : Type} (k : Bool × Int × Int × Int × Int × Int → γ) (a b0 b1 b2 b3 b4 c0 c1 c2 c3 c4 t1 t2 t3 t4 t5 t6 t7 t8 t9 t10 t11 t12 t13 t14 t15 t16 t17 t18 t19 t20 t21 t22 t23 t24 t25 t26 t27 t28 t29 t30 t31) : num_Apply.c0 false (fun _ => true) a b0 b1 b2 b3 b4 c0 c1 c2 c3 c4 t1 t2 t3 t4 t5 t6 t7 t8 t9 t10 t11 t12 t13 t14 t15 t16 t17 t18 t19 t20 t21 t22 t23 t24 t25 t26 t27 t28 t29 t30 t31 = true → num_Apply.c0 none (fun q => some (k q)) a b0 b1 b2 b3 b4 c0 c1 c2 c3 c4 t1 t2 t3 t4 t5 t6 t7 t8 t9 t10 t11 t12 t13 t14 t15 t16 t17 t18 t19 t20 t21 t22 t23 t24 t25 t26 t27 t28 t29 t30 t31 = some (k (num_Apply.c0 (false, 0, 0, 0, 0, 0) id a b0 b1 b2 b3 b4 c0 c1 c2 c3 c4 t1 t2 t3 t4 t5 t6 t7 t8 t9 t10 t11 t12 t13 t14 t15 t16 t17 t18 t19 t20 t21 t22 t23 t24 t25 t26 t27 t28 t29 t30 t31)) := by
  unfold num_Apply.c0; (repeat' (first | (apply pn k) | (exact pn_none _ _) | (exact pn_leaf k _)))
theorem num_Apply.p {γ : Type} (k : Bool × Int × Int × Int × Int × Int → γ) (a : Int) (b0 : Bool) (b1 b2 b3 b4 : Int) (c0 : Bool) (c1 c2 c3 c4 : Int) (h : num_Apply.ok a b0 b1 b2 b3 b4 c0 c1 c2 c3 c4 = true) : num_Apply.c none (fun q => some (k q)) a b0 b1 b2 b3 b4 c0 c1 c2 c3 c4 = some (k (num_Apply a b0 b1 b2 b3 b4 c0 c1 c2 c3 c4)) := by
  revert h; unfold num_Apply.ok num_Apply num_Apply.c; apply num_Apply.p0
theorem num_Apply.r (a : Int) (b0 : Bool) (b1 b2 b3 b4 : Int) (c0 : Bool) (c1 c2 c3 c4 : Int) : runF P G (tab L_num_op4) { merge := true, glue := true } 60 Tryz.f16 [.int .i64 a, wN b0 b1 b2 b3 b4, wN c0 c1 c2 c3 c4] = num_Apply.c none (fun q => some (v10 q)) a b0 b1 b2 b3 b4 c0 c1 c2 c3 c4 := by kernel_rfl
theorem num_Apply.t : TabOK P G (tab L_num_Apply) :=
  TabOK_mkL C num_op4.t Tryz.func16 (by kernel_rfl) { merge := true, glue := true } (fun c _ => LoopsOK_nil c) 60 (by
    rintro ⟨a, ⟨b0, b1, b2, b3, b4, ⟨⟩⟩, ⟨c0, c1, c2, c3, c4, ⟨⟩⟩, ⟨⟩⟩ h
    exact (num_Apply.r a b0 b1 b2 b3 b4 c0 c1 c2 c3 c4).trans (num_Apply.p v10 a b0 b1 b2 b3 b4 c0 c1 c2 c3 c4 h))
def nref_Bot.c {γ : Type} (k : N5 → γ)  : γ := k (true, 0, 0, 0, 0)
def nref_Bot  : N5 := nref_Bot.c id
def nref_Bot.F : FV := mkF cU (fun _ => true) (fun | () => v9 (nref_Bot))
def L_nref_Bot : TL := (24, nref_Bot.F) :: L_num_Apply
theorem nref_Bot.p {γ : Type} (k : N5 → γ)  : nref_Bot.c k  = k (nref_Bot) := by
  unfold nref_Bot nref_Bot.c; (repeat' (first | (apply pc k) | (exact rfl)))
theorem nref_Bot.r  : runF P G (tab L_num_Apply) { merge := true, glue := true } 60 Tryz.f24 [] = nref_Bot.c (fun q => some (v9 q))  := by kernel_rfl
theorem nref_Bot.t : TabOK P G (tab L_nref_Bot) :=
  TabOK_mkL C num_Apply.t Tryz.func24 (by kernel_rfl) { merge := true, glue := true } (fun c _ => LoopsOK_nil c) 60 (by
    rintro ⟨⟩ h
    exact (nref_Bot.r ).trans (nref_Bot.p (fun q => some (.agg #[.bool (q).1, .int .i64 (q).2.1, .int .i64 (q).2.2.1, .int .u64 (q).2.2.2.1, .int .u64 (q).2.2.2.2] : Value)) ))
def nref_Const.c0 {γ : Type} (k : N5 → γ) (a : Int) (t1 : Int × Int) : γ := k (false, a, a, t1.1, t1.2)
def nref_Const.c {γ : Type} (k : N5 → γ) (a : Int) : γ := let t1 := B.ref_Const a; nref_Const.c0 k a t1
def nref_Const (a : Int) : N5 := nref_Const.c id a
def nref_Const.F : FV := mkF (cP (cI .i64) cU) (fun _ => true) (fun | (a, ()) => v9 (nref_Const a))
def L_nref_Const : TL := (28, nref_Const.F) :: L_nref_Bot
theorem nref_Const.p0 {γ : Type} (k : N5 → γ) (a t1) : nref_Const.c0 k a t1 = k (nref_Const.c0 id a t1) := by
  unfold nref_Const.c0; (repeat' (first | (apply pc k) | (exact rfl)))
theorem nref_Const.p {γ : Type} (k : N5 → γ) (a : Int) : nref_Const.c k a = k (nref_Const a) := by
  unfold nref_Const nref_Const.c; apply nref_Const.p0
theorem nref_Const.r (a : Int) : runF P G (tab L_nref_Bot) { merge := true, glue := true } 60 Tryz.f28 [.int .i64 a] = nref_Const.c (fun q => some (v9 q)) a := by kernel_rfl
theorem nref_Const.t : TabOK P G (tab L_nref_Const) :=
  TabOK_mkL C nref_Bot.t Tryz.func28 (by kernel_rfl) { merge := true, glue := true } (fun c _ => LoopsOK_nil c) 60 (by
    rintro ⟨a, ⟨⟩⟩ h
    exact (nref_Const.r a).trans (nref_Const.p (fun q => some (.agg #[.bool (q).1, .int .i64 (q).2.1, .int .i64 (q).2.2.1, .int .u64 (q).2.2.2.1, .int .u64 (q).2.2.2.2] : Value)) a))
def nref_Make.c0 {γ : Type} (n : γ) (k : N5 → γ) (a0 a1 b0 b1 : Int) (t1 t2 t3 : Bool) (t4 t5 : Int × Bool) (t6 t7 : Bool) (t8 : N5) (t9 : Int × Int) : γ := bif t1
then k (nref_Bot.1, nref_Bot.2.1, nref_Bot.2.2.1, nref_Bot.2.2.2.1, nref_Bot.2.2.2.2)
else bif t2
then bif t3
then bif t7
then k (nref_Bot.1, nref_Bot.2.1, nref_Bot.2.2.1, nref_Bot.2.2.2.1, nref_Bot.2.2.2.2)
else bif t4.1 == t5.1
then k (t8.1, t8.2.1, t8.2.2.1, t8.2.2.2.1, t8.2.2.2.2)
else k (false, t4.1, t5.1, t9.1, t9.2)
else n
else n
def nref_Make.c {γ : Type} (n : γ) (k : N5 → γ) (a0 a1 b0 b1 : Int) : γ := let t1 := A.ref_Empty a0 a1; let t2 := B.ref_Up.ok b0 b1 a0; let t3 := B.ref_Down.ok b0 b1 a1; let t4 := B.ref_Up b0 b1 a0; let t5 := B.ref_Down b0 b1 a1; let t6 := bif !t4.2 then true else !t5.2; let t7 := bif t6 then true else decide (t4.1 > t5.1); let t8 := nref_Const t4.1; let t9 := B.ref_Norm b0 b1; nref_Make.c0 n k a0 a1 b0 b1 t1 t2 t3 t4 t5 t6 t7 t8 t9
def nref_Make.ok (a0 a1 b0 b1 : Int) : Bool := nref_Make.c false (fun _ => true) a0 a1 b0 b1
def nref_Make (a0 a1 b0 b1 : Int) : N5 := nref_Make.c (false, 0, 0, 0, 0) id a0 a1 b0 b1
def nref_Make.F : FV := mkF (cP cV (cP cW cU)) (fun | ((a0, a1, ()), (b0, b1, ()), ()) => nref_Make.ok a0 a1 b0 b1) (fun | ((a0, a1, ()), (b0, b1, ()), ()) => v9 (nref_Make a0 a1 b0 b1))
def L_nref_Make : TL := (26, nref_Make.F) :: L_nref_Const
theorem nref_Make.p0 {γ : Type} (k : N5 → γ) (a0 a1 b0 b1 t1 t2 t3 t4 t5 t6 t7 t8 t9) : nref_Make.c0 false (fun _ => true) a0 a1 b0 b1 t1 t2 t3 t4 t5 t6 t7 t8 t9 = true → nref_Make.c0 none (fun q => some (k q)) a0 a1 b0 b1 t1 t2 t3 t4 t5 t6 t7 t8 t9 = some (k (nref_Make.c0 (false, 0, 0, 0, 0) id a0 a1 b0 b1 t1 t2 t3 t4 t5 t6 t7 t8 t9)) := by
  unfold nref_Make.c0; (repeat' (first | (apply pn k) | (exact pn_none _ _) | (exact pn_leaf k _)))
theorem nref_Make.p {γ : Type} (k : N5 → γ) (a0 a1 b0 b1 : Int) (h : nref_Make.ok a0 a1 b0 b1 = true) : nref_Make.c none (fun q => some (k q)) a0 a1 b0 b1 = some (k (nref_Make a0 a1 b0 b1)) := by
  revert h; unfold nref_Make.ok nref_Make nref_Make.c; apply nref_Make.p0
theorem nref_Make.r (a0 a1 b0 b1 : Int) : runF P G (tab L_nref_Const) { merge := true, glue := true } 60 Tryz.f26 [wV a0 a1, wW b0 b1] = nref_Make.c none (fun q => some (v9 q)) a0 a1 b0 b1 := by kernel_rfl
theorem nref_Make.t : TabOK P G (tab L_nref_Make) :=
  TabOK_mkL C nref_Const.t Tryz.func26 (by kernel_rfl) { merge := true, glue := true } (fun c _ => LoopsOK_nil c) 60 (by
    rintro ⟨⟨a0, a1, ⟨⟩⟩, ⟨b0, b1, ⟨⟩⟩, ⟨⟩⟩ h
    exact (nref_Make.r a0 a1 b0 b1).trans (nref_Make.p v9 a0 a1 b0 b1 h))
def nref_Range.c0 {γ : Type} (n : γ) (k : N5 → γ) (a b : Int) (t1 : Bool) (t2 : N5) : γ := bif t1
then k (t2.1, t2.2.1, t2.2.2.1, t2.2.2.2.1, t2.2.2.2.2)
else n
def nref_Range.c {γ : Type} (n : γ) (k : N5 → γ) (a b : Int) : γ := let t1 := nref_Make.ok a b 1 0; let t2 := nref_Make a b 1 0; nref_Range.c0 n k a b t1 t2
def nref_Range.ok (a b : Int) : Bool := nref_Range.c false (fun _ => true) a b
def nref_Range (a b : Int) : N5 := nref_Range.c (false, 0, 0, 0, 0) id a b
def nref_Range.F : FV := mkF (cP (cI .i64) (cP (cI .i64) cU)) (fun | (a, b, ()) => nref_Range.ok a b) (fun | (a, b, ()) => v9 (nref_Range a b))
def L_nref_Range : TL := (30, nref_Range.F) :: L_nref_Make
theorem nref_Range.p0 {γ : Type} (k : N5 → γ) (a b t1 t2) : nref_Range.c0 false (fun _ => true) a b t1 t2 = true → nref_Range.c0 none (fun q => some (k q)) a b t1 t2 = some (k (nref_Range.c0 (false, 0, 0, 0, 0) id a b t1 t2)) := by
  unfold nref_Range.c0; (repeat' (first | (apply pn k) | (exact pn_none _ _) | (exact pn_leaf k _)))
theorem nref_Range.p {γ : Type} (k : N5 → γ) (a b : Int) (h : nref_Range.ok a b = true) : nref_Range.c none (fun q => some (k q)) a b = some (k (nref_Range a b)) := by
  revert h; unfold nref_Range.ok nref_Range nref_Range.c; apply nref_Range.p0
theorem nref_Range.r (a b : Int) : runF P G (tab L_nref_Make) { merge := true, glue := true } 60 Tryz.f30 [.int .i64 a, .int .i64 b] = nref_Range.c none (fun q => some (v9 q)) a b := by kernel_rfl
theorem nref_Range.t : TabOK P G (tab L_nref_Range) :=
  TabOK_mkL C nref_Make.t Tryz.func30 (by kernel_rfl) { merge := true, glue := true } (fun c _ => LoopsOK_nil c) 60 (by
    rintro ⟨a, b, ⟨⟩⟩ h
    exact (nref_Range.r a b).trans (nref_Range.p v9 a b h))
def nref_Norm.c0 {γ : Type} (n : γ) (k : N5 → γ) (a0 : Bool) (a1 a2 a3 a4 : Int) (t1 : Bool) (t2 : N5) : γ := bif a0
then k (nref_Bot.1, nref_Bot.2.1, nref_Bot.2.2.1, nref_Bot.2.2.2.1, nref_Bot.2.2.2.2)
else bif t1
then k (t2.1, t2.2.1, t2.2.2.1, t2.2.2.2.1, t2.2.2.2.2)
else n
def nref_Norm.c {γ : Type} (n : γ) (k : N5 → γ) (a0 : Bool) (a1 a2 a3 a4 : Int) : γ := let t1 := nref_Make.ok a1 a2 a3 a4; let t2 := nref_Make a1 a2 a3 a4; nref_Norm.c0 n k a0 a1 a2 a3 a4 t1 t2
def nref_Norm.ok (a0 : Bool) (a1 a2 a3 a4 : Int) : Bool := nref_Norm.c false (fun _ => true) a0 a1 a2 a3 a4
def nref_Norm (a0 : Bool) (a1 a2 a3 a4 : Int) : N5 := nref_Norm.c (false, 0, 0, 0, 0) id a0 a1 a2 a3 a4
def nref_Norm.F : FV := mkF (cP cN cU) (fun | ((a0, a1, a2, a3, a4, ()), ()) => nref_Norm.ok a0 a1 a2 a3 a4) (fun | ((a0, a1, a2, a3, a4, ()), ()) => v9 (nref_Norm a0 a1 a2 a3 a4))
def L_nref_Norm : TL := (27, nref_Norm.F) :: L_nref_Range
theorem nref_Norm.p0 {γ : Type} (k : N5 → γ) (a0 a1 a2 a3 a4 t1 t2) : nref_Norm.c0 false (fun _ => true) a0 a1 a2 a3 a4 t1 t2 = true → nref_Norm.c0 none (fun q => some (k q)) a0 a1 a2 a3 a4 t1 t2 = some (k (nref_Norm.c0 (false, 0, 0, 0, 0) id a0 a1 a2 a3 a4 t1 t2)) := by
  unfold nref_Norm.c0; (repeat' (first | (apply pn k) | (exact pn_none _ _) | (exact pn_leaf k _)))
theorem nref_Norm.p {γ : Type} (k : N5 → γ) (a0 : Bool) (a1 a2 a3 a4 : Int) (h : nref_Norm.ok a0 a1 a2 a3 a4 = true) : nref_Norm.c none (fun q => some (k q)) a0 a1 a2 a3 a4 = some (k (nref_Norm a0 a1 a2 a3 a4)) := by
  revert h; unfold nref_Norm.ok nref_Norm nref_Norm.c; apply nref_Norm.p0
theorem nref_Norm.r (a0 : Bool) (a1 a2 a3 a4 : Int) : runF P G (tab L_nref_Range) { merge := true, glue := true } 60 Tryz.f27 [wN a0 a1 a2 a3 a4] = nref_Norm.c none (fun q => some (v9 q)) a0 a1 a2 a3 a4 := by kernel_rfl
theorem nref_Norm.t : TabOK P G (tab L_nref_Norm) :=
  TabOK_mkL C nref_Range.t Tryz.func27 (by kernel_rfl) { merge := true, glue := true } (fun c _ => LoopsOK_nil c) 60 (by
    rintro ⟨⟨a0, a1, a2, a3, a4, ⟨⟩⟩, ⟨⟩⟩ h
    exact (nref_Norm.r a0 a1 a2 a3 a4).trans (nref_Norm.p v9 a0 a1 a2 a3 a4 h))
def nref_Has.c0 {γ : Type} (n : γ) (k : Bool → γ) (a0 : Bool) (a1 a2 a3 a4 b : Int) (t1 t2 t3 t4 t5 : Bool) : γ := bif (t1 || !(t3 && true)) && true
then k (t5)
else n
def nref_Has.c {γ : Type} (n : γ) (k : Bool → γ) (a0 : Bool) (a1 a2 a3 a4 b : Int) : γ := let t1 := B.ref_Has.ok a3 a4 b; let t2 := A.ref_Has a1 a2 b; let t3 := bif !a0 then t2 else false; let t4 := B.ref_Has a3 a4 b; let t5 := bif t3 then t4 else false; nref_Has.c0 n k a0 a1 a2 a3 a4 b t1 t2 t3 t4 t5
def nref_Has.ok (a0 : Bool) (a1 a2 a3 a4 b : Int) : Bool := nref_Has.c false (fun _ => true) a0 a1 a2 a3 a4 b
def nref_Has (a0 : Bool) (a1 a2 a3 a4 b : Int) : Bool := nref_Has.c (false) id a0 a1 a2 a3 a4 b
def nref_Has.F : FV := mkF (cP cN (cP (cI .i64) cU)) (fun | ((a0, a1, a2, a3, a4, ()), b, ()) => nref_Has.ok a0 a1 a2 a3 a4 b) (fun | ((a0, a1, a2, a3, a4, ()), b, ()) => .bool (nref_Has a0 a1 a2 a3 a4 b))
def L_nref_Has : TL := (32, nref_Has.F) :: L_nref_Norm
theorem nref_Has.p0 {γ : Type} (k : Bool → γ) (a0 a1 a2 a3 a4 b t1 t2 t3 t4 t5) : nref_Has.c0 false (fun _ => true) a0 a1 a2 a3 a4 b t1 t2 t3 t4 t5 = true → nref_Has.c0 none (fun q => some (k q)) a0 a1 a2 a3 a4 b t1 t2 t3 t4 t5 = some (k (nref_Has.c0 (false) id a0 a1 a2 a3 a4 b t1 t2 t3 t4 t5)) := by
  unfold nref_Has.c0; (repeat' (first | (apply pn k) | (exact pn_none _ _) | (exact pn_leaf k _)))
theorem nref_Has.p {γ : Type} (k : Bool → γ) (a0 : Bool) (a1 a2 a3 a4 b : Int) (h : nref_Has.ok a0 a1 a2 a3 a4 b = true) : nref_Has.c none (fun q => some (k q)) a0 a1 a2 a3 a4 b = some (k (nref_Has a0 a1 a2 a3 a4 b)) := by
  revert h; unfold nref_Has.ok nref_Has nref_Has.c; apply nref_Has.p0
theorem nref_Has.r (a0 : Bool) (a1 a2 a3 a4 b : Int) : runF P G (tab L_nref_Norm) { merge := true, glue := true } 60 Tryz.f32 [wN a0 a1 a2 a3 a4, .int .i64 b] = nref_Has.c none (fun q => some (.bool (q) : Value)) a0 a1 a2 a3 a4 b := by kernel_rfl
theorem nref_Has.t : TabOK P G (tab L_nref_Has) :=
  TabOK_mkL C nref_Norm.t Tryz.func32 (by kernel_rfl) { merge := true, glue := true } (fun c _ => LoopsOK_nil c) 60 (by
    rintro ⟨⟨a0, a1, a2, a3, a4, ⟨⟩⟩, b, ⟨⟩⟩ h
    exact (nref_Has.r a0 a1 a2 a3 a4 b).trans (nref_Has.p (fun q => (.bool (q) : Value)) a0 a1 a2 a3 a4 b h))
def nref_Leq.c0 {γ : Type} (n : γ) (k : Bool → γ) (a0 : Bool) (a1 a2 a3 a4 : Int) (b0 : Bool) (b1 b2 b3 b4 : Int) (t1 t2 : Bool) (t3 t4 : N5) (t5 t6 t7 t8 t9 : Bool) : γ := bif t1
then bif t2
then bif t5
then k (t3.1)
else bif (t6 || !(t7 && true)) && true
then k (t9)
else n
else n
else n
def nref_Leq.c {γ : Type} (n : γ) (k : Bool → γ) (a0 : Bool) (a1 a2 a3 a4 : Int) (b0 : Bool) (b1 b2 b3 b4 : Int) : γ := let t1 := nref_Norm.ok a0 a1 a2 a3 a4; let t2 := nref_Norm.ok b0 b1 b2 b3 b4; let t3 := nref_Norm a0 a1 a2 a3 a4; let t4 := nref_Norm b0 b1 b2 b3 b4; let t5 := bif t3.1 then true else t4.1; let t6 := B.ref_Leq.ok t3.2.2.2.1 t3.2.2.2.2 t4.2.2.2.1 t4.2.2.2.2; let t7 := A.ref_Leq t3.2.1 t3.2.2.1 t4.2.1 t4.2.2.1; let t8 := B.ref_Leq t3.2.2.2.1 t3.2.2.2.2 t4.2.2.2.1 t4.2.2.2.2; let t9 := bif t7 then t8 else false; nref_Leq.c0 n k a0 a1 a2 a3 a4 b0 b1 b2 b3 b4 t1 t2 t3 t4 t5 t6 t7 t8 t9
def nref_Leq.ok (a0 : Bool) (a1 a2 a3 a4 : Int) (b0 : Bool) (b1 b2 b3 b4 : Int) : Bool := nref_Leq.c false (fun _ => true) a0 a1 a2 a3 a4 b0 b1 b2 b3 b4
def nref_Leq (a0 : Bool) (a1 a2 a3 a4 : Int) (b0 : Bool) (b1 b2 b3 b4 : Int) : Bool := nref_Leq.c (false) id a0 a1 a2 a3 a4 b0 b1 b2 b3 b4
def nref_Leq.F : FV := mkF (cP cN (cP cN cU)) (fun | ((a0, a1, a2, a3, a4, ()), (b0, b1, b2, b3, b4, ()), ()) => nref_Leq.ok a0 a1 a2 a3 a4 b0 b1 b2 b3 b4) (fun | ((a0, a1, a2, a3, a4, ()), (b0, b1, b2, b3, b4, ()), ()) => .bool (nref_Leq a0 a1 a2 a3 a4 b0 b1 b2 b3 b4))
def L_nref_Leq : TL := (34, nref_Leq.F) :: L_nref_Has
theorem nref_Leq.p0 {γ : Type} (k : Bool → γ) (a0 a1 a2 a3 a4 b0 b1 b2 b3 b4 t1 t2 t3 t4 t5 t6 t7 t8 t9) : nref_Leq.c0 false (fun _ => true) a0 a1 a2 a3 a4 b0 b1 b2 b3 b4 t1 t2 t3 t4 t5 t6 t7 t8 t9 = true → nref_Leq.c0 none (fun q => some (k q)) a0 a1 a2 a3 a4 b0 b1 b2 b3 b4 t1 t2 t3 t4 t5 t6 t7 t8 t9 = some (k (nref_Leq.c0 (false) id a0 a1 a2 a3 a4 b0 b1 b2 b3 b4 t1 t2 t3 t4 t5 t6 t7 t8 t9)) := by
  unfold nref_Leq.c0; (repeat' (first | (apply pn k) | (exact pn_none _ _) | (exact pn_leaf k _)))
theorem nref_Leq.p {γ : Type} (k : Bool → γ) (a0 : Bool) (a1 a2 a3 a4 : Int) (b0 : Bool) (b1 b2 b3 b4 : Int) (h : nref_Leq.ok a0 a1 a2 a3 a4 b0 b1 b2 b3 b4 = true) : nref_Leq.c none (fun q => some (k q)) a0 a1 a2 a3 a4 b0 b1 b2 b3 b4 = some (k (nref_Leq a0 a1 a2 a3 a4 b0 b1 b2 b3 b4)) := by
  revert h; unfold nref_Leq.ok nref_Leq nref_Leq.c; apply nref_Leq.p0
theorem nref_Leq.r (a0 : Bool) (a1 a2 a3 a4 : Int) (b0 : Bool) (b1 b2 b3 b4 : Int) : runF P G (tab L_nref_Has) { merge := true, glue := true } 60 Tryz.f34 [wN a0 a1 a2 a3 a4, wN b0 b1 b2 b3 b4] = nref_Leq.c none (fun q => some (.bool (q) : Value)) a0 a1 a2 a3 a4 b0 b1 b2 b3 b4 := by kernel_rfl
theorem nref_Leq.t : TabOK P G (tab L_nref_Leq) :=
  TabOK_mkL C nref_Has.t Tryz.func34 (by kernel_rfl) { merge := true, glue := true } (fun c _ => LoopsOK_nil c) 60 (by
    rintro ⟨⟨a0, a1, a2, a3, a4, ⟨⟩⟩, ⟨b0, b1, b2, b3, b4, ⟨⟩⟩, ⟨⟩⟩ h
    exact (nref_Leq.r a0 a1 a2 a3 a4 b0 b1 b2 b3 b4).trans (nref_Leq.p (fun q => (.bool (q) : Value)) a0 a1 a2 a3 a4 b0 b1 b2 b3 b4 h))
end
end Go.Proofs.YtonpbbhlmapbdaaGreatDoor.V
