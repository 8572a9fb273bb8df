/- What the functions of this seat compute, told by evaluation of their code. Conditions: none. -/
import Derived.Test.YtbbplkdjcgdaaaaDoorB
set_option linter.unusedVariables false
set_option linter.unusedSimpArgs false
namespace Go.Proofs.YtbbplkdjcgdaaaaDoor.V
open Go Go.Wk

def ival_none.c {γ : Type} (k : Bool → γ) (a0 : Int) (a1 : Int) : γ := k (decide (a0 > a1))
def ival_none (a0 : Int) (a1 : Int) : Bool := ival_none.c id a0 a1
def ival_none.F : FV := mkF (cP (cA (cP (cI .i64) (cP (cI .i64) cU))) cU) (fun _ => true) (fun | ((a0, (a1, ())), ()) => .bool (ival_none a0 a1))
def L_ival_none : TL := (36, ival_none.F) :: []
theorem ival_none.p {γ : Type} (k : Bool → γ) (a0 : Int) (a1 : Int) : ival_none.c k a0 a1 = k (ival_none a0 a1) := by
  unfold ival_none ival_none.c; (repeat' (first | (apply pc k) | (exact rfl)))
theorem ival_none.r (a0 : Int) (a1 : Int) : runF P G (tab []) { merge := true } 60 Tryd.f36 [.agg #[.int .i64 a0, .int .i64 a1]] = ival_none.c (fun q => some (.bool (q) : Value)) a0 a1 := by kernel_rfl
theorem ival_none.t : TabOK P G (tab L_ival_none) :=
  TabOK_mk C TabOK_nil Tryd.func36 (by kernel_rfl) true 60 (by
    rintro ⟨⟨a0, ⟨a1, ⟨⟩⟩⟩, ⟨⟩⟩ h
    exact (ival_none.r a0 a1).trans (ival_none.p (fun q => some (.bool (q) : Value)) a0 a1))

def ival_one.c {γ : Type} (k : Bool → γ) (a0 : Int) (a1 : Int) : γ := k (a0 == a1)
def ival_one (a0 : Int) (a1 : Int) : Bool := ival_one.c id a0 a1
def ival_one.F : FV := mkF (cP (cA (cP (cI .i64) (cP (cI .i64) cU))) cU) (fun _ => true) (fun | ((a0, (a1, ())), ()) => .bool (ival_one a0 a1))
def L_ival_one : TL := (53, ival_one.F) :: L_ival_none
theorem ival_one.p {γ : Type} (k : Bool → γ) (a0 : Int) (a1 : Int) : ival_one.c k a0 a1 = k (ival_one a0 a1) := by
  unfold ival_one ival_one.c; (repeat' (first | (apply pc k) | (exact rfl)))
theorem ival_one.r (a0 : Int) (a1 : Int) : runF P G (tab L_ival_none) { merge := true } 60 Tryd.f53 [.agg #[.int .i64 a0, .int .i64 a1]] = ival_one.c (fun q => some (.bool (q) : Value)) a0 a1 := by kernel_rfl
theorem ival_one.t : TabOK P G (tab L_ival_one) :=
  TabOK_mk C ival_none.t Tryd.func53 (by kernel_rfl) true 60 (by
    rintro ⟨⟨a0, ⟨a1, ⟨⟩⟩⟩, ⟨⟩⟩ h
    exact (ival_one.r a0 a1).trans (ival_one.p (fun q => some (.bool (q) : Value)) a0 a1))

def ival_Has.c {γ : Type} (k : Bool → γ) (a0 : Int) (a1 : Int) (b : Int) : γ := bif decide (a0 ≤ b)
  then k (decide (b ≤ a1))
  else k (false)
def ival_Has (a0 : Int) (a1 : Int) (b : Int) : Bool := ival_Has.c id a0 a1 b
def ival_Has.F : FV := mkF (cP (cA (cP (cI .i64) (cP (cI .i64) cU))) (cP (cI .i64) cU)) (fun _ => true) (fun | ((a0, (a1, ())), (b, ())) => .bool (ival_Has a0 a1 b))
def L_ival_Has : TL := (12, ival_Has.F) :: L_ival_one
theorem ival_Has.p {γ : Type} (k : Bool → γ) (a0 : Int) (a1 : Int) (b : Int) : ival_Has.c k a0 a1 b = k (ival_Has a0 a1 b) := by
  unfold ival_Has ival_Has.c; (repeat' (first | (apply pc k) | (exact rfl)))
theorem ival_Has.r (a0 : Int) (a1 : Int) (b : Int) : runF P G (tab L_ival_one) { merge := true } 60 Tryd.f12 [.agg #[.int .i64 a0, .int .i64 a1], .int .i64 b] = ival_Has.c (fun q => some (.bool (q) : Value)) a0 a1 b := by kernel_rfl
theorem ival_Has.t : TabOK P G (tab L_ival_Has) :=
  TabOK_mk C ival_one.t Tryd.func12 (by kernel_rfl) true 60 (by
    rintro ⟨⟨a0, ⟨a1, ⟨⟩⟩⟩, ⟨b, ⟨⟩⟩⟩ h
    exact (ival_Has.r a0 a1 b).trans (ival_Has.p (fun q => some (.bool (q) : Value)) a0 a1 b))

def ival_Leq.c0 {γ : Type} (k : Bool → γ) (a0 : Int) (a1 : Int) (b0 : Int) (b1 : Int) (t1 : Bool) : γ := bif t1
  then k (true)
  else bif decide (b0 ≤ a0)
   then k (decide (a1 ≤ b1))
   else k (false)
def ival_Leq.c {γ : Type} (k : Bool → γ) (a0 : Int) (a1 : Int) (b0 : Int) (b1 : Int) : γ := let t1 := ival_none a0 a1; ival_Leq.c0 k a0 a1 b0 b1 t1
def ival_Leq (a0 : Int) (a1 : Int) (b0 : Int) (b1 : Int) : Bool := ival_Leq.c id a0 a1 b0 b1
def ival_Leq.F : FV := mkF (cP (cA (cP (cI .i64) (cP (cI .i64) cU))) (cP (cA (cP (cI .i64) (cP (cI .i64) cU))) cU)) (fun _ => true) (fun | ((a0, (a1, ())), ((b0, (b1, ())), ())) => .bool (ival_Leq a0 a1 b0 b1))
def L_ival_Leq : TL := (11, ival_Leq.F) :: L_ival_Has
theorem ival_Leq.p0 {γ : Type} (k : Bool → γ) (a0 : Int) (a1 : Int) (b0 : Int) (b1 : Int) (t1 : Bool) : ival_Leq.c0 k a0 a1 b0 b1 t1 = k (ival_Leq.c0 id a0 a1 b0 b1 t1) := by
  unfold ival_Leq.c0; (repeat' (first | (apply pc k) | (exact rfl)))
theorem ival_Leq.p {γ : Type} (k : Bool → γ) (a0 : Int) (a1 : Int) (b0 : Int) (b1 : Int) : ival_Leq.c k a0 a1 b0 b1 = k (ival_Leq a0 a1 b0 b1) :=
  let t1 := ival_none a0 a1; ival_Leq.p0 k a0 a1 b0 b1 t1
theorem ival_Leq.r (a0 : Int) (a1 : Int) (b0 : Int) (b1 : Int) : runF P G (tab L_ival_Has) { merge := true } 60 Tryd.f11 [.agg #[.int .i64 a0, .int .i64 a1], .agg #[.int .i64 b0, .int .i64 b1]] = ival_Leq.c (fun q => some (.bool (q) : Value)) a0 a1 b0 b1 := by kernel_rfl
theorem ival_Leq.t : TabOK P G (tab L_ival_Leq) :=
  TabOK_mk C ival_Has.t Tryd.func11 (by kernel_rfl) true 60 (by
    rintro ⟨⟨a0, ⟨a1, ⟨⟩⟩⟩, ⟨⟨b0, ⟨b1, ⟨⟩⟩⟩, ⟨⟩⟩⟩ h
    exact (ival_Leq.r a0 a1 b0 b1).trans (ival_Leq.p (fun q => some (.bool (q) : Value)) a0 a1 b0 b1))

def ival_Join.c0 {γ : Type} (k : Int × Int → γ) (a0 : Int) (a1 : Int) (b0 : Int) (b1 : Int) (t1 : Bool) (t2 : Bool) (t3 : Int) (t4 : Int) : γ := bif t1
  then bif t2
   then k (1, 0)
   else bif t1
    then k (b0, b1)
    else bif t2
     then k (a0, a1)
     else k (t3, t4)
  else bif t1
   then k (b0, b1)
   else bif t2
    then k (a0, a1)
    else k (t3, t4)
def ival_Join.c {γ : Type} (k : Int × Int → γ) (a0 : Int) (a1 : Int) (b0 : Int) (b1 : Int) : γ := let t1 := ival_none a0 a1; let t2 := ival_none b0 b1; let t3 := if b0 < a0 then b0 else a0; let t4 := if b1 > a1 then b1 else a1; ival_Join.c0 k a0 a1 b0 b1 t1 t2 t3 t4
def ival_Join (a0 : Int) (a1 : Int) (b0 : Int) (b1 : Int) : Int × Int := ival_Join.c id a0 a1 b0 b1
def ival_Join.F : FV := mkF (cP (cA (cP (cI .i64) (cP (cI .i64) cU))) (cP (cA (cP (cI .i64) (cP (cI .i64) cU))) cU)) (fun _ => true) (fun | ((a0, (a1, ())), ((b0, (b1, ())), ())) => .agg #[.int .i64 (ival_Join a0 a1 b0 b1).1, .int .i64 (ival_Join a0 a1 b0 b1).2])
def L_ival_Join : TL := (15, ival_Join.F) :: L_ival_Leq
theorem ival_Join.p0 {γ : Type} (k : Int × Int → γ) (a0 : Int) (a1 : Int) (b0 : Int) (b1 : Int) (t1 : Bool) (t2 : Bool) (t3 : Int) (t4 : Int) : ival_Join.c0 k a0 a1 b0 b1 t1 t2 t3 t4 = k (ival_Join.c0 id a0 a1 b0 b1 t1 t2 t3 t4) := by
  unfold ival_Join.c0; (repeat' (first | (apply pc k) | (exact rfl)))
theorem ival_Join.p {γ : Type} (k : Int × Int → γ) (a0 : Int) (a1 : Int) (b0 : Int) (b1 : Int) : ival_Join.c k a0 a1 b0 b1 = k (ival_Join a0 a1 b0 b1) :=
  let t1 := ival_none a0 a1; let t2 := ival_none b0 b1; let t3 := if b0 < a0 then b0 else a0; let t4 := if b1 > a1 then b1 else a1; ival_Join.p0 k a0 a1 b0 b1 t1 t2 t3 t4
theorem ival_Join.r (a0 : Int) (a1 : Int) (b0 : Int) (b1 : Int) : runF P G (tab L_ival_Leq) { merge := true } 60 Tryd.f15 [.agg #[.int .i64 a0, .int .i64 a1], .agg #[.int .i64 b0, .int .i64 b1]] = ival_Join.c (fun q => some (.agg #[.int .i64 (q).1, .int .i64 (q).2] : Value)) a0 a1 b0 b1 := by kernel_rfl
theorem ival_Join.t : TabOK P G (tab L_ival_Join) :=
  TabOK_mk C ival_Leq.t Tryd.func15 (by kernel_rfl) true 60 (by
    rintro ⟨⟨a0, ⟨a1, ⟨⟩⟩⟩, ⟨⟨b0, ⟨b1, ⟨⟩⟩⟩, ⟨⟩⟩⟩ h
    exact (ival_Join.r a0 a1 b0 b1).trans (ival_Join.p (fun q => some (.agg #[.int .i64 (q).1, .int .i64 (q).2] : Value)) a0 a1 b0 b1))

def ival_Meet.c0 {γ : Type} (k : Int × Int → γ) (a0 : Int) (a1 : Int) (b0 : Int) (b1 : Int) (t1 : Bool) (t2 : Bool) (t3 : Int) (t4 : Int) (t5 : Bool) : γ := bif t1
  then k (1, 0)
  else bif t2
   then k (1, 0)
   else bif t5
    then k (1, 0)
    else k (t3, t4)
def ival_Meet.c {γ : Type} (k : Int × Int → γ) (a0 : Int) (a1 : Int) (b0 : Int) (b1 : Int) : γ := let t1 := ival_none a0 a1; let t2 := ival_none b0 b1; let t3 := if b0 > a0 then b0 else a0; let t4 := if b1 < a1 then b1 else a1; let t5 := ival_none t3 t4; ival_Meet.c0 k a0 a1 b0 b1 t1 t2 t3 t4 t5
def ival_Meet (a0 : Int) (a1 : Int) (b0 : Int) (b1 : Int) : Int × Int := ival_Meet.c id a0 a1 b0 b1
def ival_Meet.F : FV := mkF (cP (cA (cP (cI .i64) (cP (cI .i64) cU))) (cP (cA (cP (cI .i64) (cP (cI .i64) cU))) cU)) (fun _ => true) (fun | ((a0, (a1, ())), ((b0, (b1, ())), ())) => .agg #[.int .i64 (ival_Meet a0 a1 b0 b1).1, .int .i64 (ival_Meet a0 a1 b0 b1).2])
def L_ival_Meet : TL := (16, ival_Meet.F) :: L_ival_Join
theorem ival_Meet.p0 {γ : Type} (k : Int × Int → γ) (a0 : Int) (a1 : Int) (b0 : Int) (b1 : Int) (t1 : Bool) (t2 : Bool) (t3 : Int) (t4 : Int) (t5 : Bool) : ival_Meet.c0 k a0 a1 b0 b1 t1 t2 t3 t4 t5 = k (ival_Meet.c0 id a0 a1 b0 b1 t1 t2 t3 t4 t5) := by
  unfold ival_Meet.c0; (repeat' (first | (apply pc k) | (exact rfl)))
theorem ival_Meet.p {γ : Type} (k : Int × Int → γ) (a0 : Int) (a1 : Int) (b0 : Int) (b1 : Int) : ival_Meet.c k a0 a1 b0 b1 = k (ival_Meet a0 a1 b0 b1) :=
  let t1 := ival_none a0 a1; let t2 := ival_none b0 b1; let t3 := if b0 > a0 then b0 else a0; let t4 := if b1 < a1 then b1 else a1; let t5 := ival_none t3 t4; ival_Meet.p0 k a0 a1 b0 b1 t1 t2 t3 t4 t5
theorem ival_Meet.r (a0 : Int) (a1 : Int) (b0 : Int) (b1 : Int) : runF P G (tab L_ival_Join) { merge := true } 60 Tryd.f16 [.agg #[.int .i64 a0, .int .i64 a1], .agg #[.int .i64 b0, .int .i64 b1]] = ival_Meet.c (fun q => some (.agg #[.int .i64 (q).1, .int .i64 (q).2] : Value)) a0 a1 b0 b1 := by kernel_rfl
theorem ival_Meet.t : TabOK P G (tab L_ival_Meet) :=
  TabOK_mk C ival_Join.t Tryd.func16 (by kernel_rfl) true 60 (by
    rintro ⟨⟨a0, ⟨a1, ⟨⟩⟩⟩, ⟨⟨b0, ⟨b1, ⟨⟩⟩⟩, ⟨⟩⟩⟩ h
    exact (ival_Meet.r a0 a1 b0 b1).trans (ival_Meet.p (fun q => some (.agg #[.int .i64 (q).1, .int .i64 (q).2] : Value)) a0 a1 b0 b1))

def word_Add.c0 {γ : Type} (k : Int → γ) (a : Int) (b : Int) (t1 : Int) (t2 : Int) (t3 : Int) (t4 : Int) : γ := k (t4)
def word_Add.c {γ : Type} (k : Int → γ) (a : Int) (b : Int) : γ := let t1 := IntKind.u64.wrap a; let t2 := IntKind.u64.wrap b; let t3 := IntKind.u64.wrap (t1 + t2); let t4 := IntKind.i64.wrap t3; word_Add.c0 k a b t1 t2 t3 t4
def word_Add (a : Int) (b : Int) : Int := word_Add.c id a b
def word_Add.F : FV := mkF (cP (cI .i64) (cP (cI .i64) cU)) (fun _ => true) (fun | (a, (b, ())) => .int .i64 (word_Add a b))
def L_word_Add : TL := (44, word_Add.F) :: L_ival_Meet
theorem word_Add.p0 {γ : Type} (k : Int → γ) (a : Int) (b : Int) (t1 : Int) (t2 : Int) (t3 : Int) (t4 : Int) : word_Add.c0 k a b t1 t2 t3 t4 = k (word_Add.c0 id a b t1 t2 t3 t4) := by
  unfold word_Add.c0; (repeat' (first | (apply pc k) | (exact rfl)))
theorem word_Add.p {γ : Type} (k : Int → γ) (a : Int) (b : Int) : word_Add.c k a b = k (word_Add a b) :=
  let t1 := IntKind.u64.wrap a; let t2 := IntKind.u64.wrap b; let t3 := IntKind.u64.wrap (t1 + t2); let t4 := IntKind.i64.wrap t3; word_Add.p0 k a b t1 t2 t3 t4
theorem word_Add.r (a : Int) (b : Int) : runF P G (tab L_ival_Meet) { merge := true } 60 Tryd.f44 [.int .i64 a, .int .i64 b] = word_Add.c (fun q => some (.int .i64 (q) : Value)) a b := by kernel_rfl
theorem word_Add.t : TabOK P G (tab L_word_Add) :=
  TabOK_mk C ival_Meet.t Tryd.func44 (by kernel_rfl) true 60 (by
    rintro ⟨a, ⟨b, ⟨⟩⟩⟩ h
    exact (word_Add.r a b).trans (word_Add.p (fun q => some (.int .i64 (q) : Value)) a b))

def word_Sub.c0 {γ : Type} (k : Int → γ) (a : Int) (b : Int) (t1 : Int) (t2 : Int) (t3 : Int) (t4 : Int) : γ := k (t4)
def word_Sub.c {γ : Type} (k : Int → γ) (a : Int) (b : Int) : γ := let t1 := IntKind.u64.wrap a; let t2 := IntKind.u64.wrap b; let t3 := IntKind.u64.wrap (t1 - t2); let t4 := IntKind.i64.wrap t3; word_Sub.c0 k a b t1 t2 t3 t4
def word_Sub (a : Int) (b : Int) : Int := word_Sub.c id a b
def word_Sub.F : FV := mkF (cP (cI .i64) (cP (cI .i64) cU)) (fun _ => true) (fun | (a, (b, ())) => .int .i64 (word_Sub a b))
def L_word_Sub : TL := (47, word_Sub.F) :: L_word_Add
theorem word_Sub.p0 {γ : Type} (k : Int → γ) (a : Int) (b : Int) (t1 : Int) (t2 : Int) (t3 : Int) (t4 : Int) : word_Sub.c0 k a b t1 t2 t3 t4 = k (word_Sub.c0 id a b t1 t2 t3 t4) := by
  unfold word_Sub.c0; (repeat' (first | (apply pc k) | (exact rfl)))
theorem word_Sub.p {γ : Type} (k : Int → γ) (a : Int) (b : Int) : word_Sub.c k a b = k (word_Sub a b) :=
  let t1 := IntKind.u64.wrap a; let t2 := IntKind.u64.wrap b; let t3 := IntKind.u64.wrap (t1 - t2); let t4 := IntKind.i64.wrap t3; word_Sub.p0 k a b t1 t2 t3 t4
theorem word_Sub.r (a : Int) (b : Int) : runF P G (tab L_word_Add) { merge := true } 60 Tryd.f47 [.int .i64 a, .int .i64 b] = word_Sub.c (fun q => some (.int .i64 (q) : Value)) a b := by kernel_rfl
theorem word_Sub.t : TabOK P G (tab L_word_Sub) :=
  TabOK_mk C word_Add.t Tryd.func47 (by kernel_rfl) true 60 (by
    rintro ⟨a, ⟨b, ⟨⟩⟩⟩ h
    exact (word_Sub.r a b).trans (word_Sub.p (fun q => some (.int .i64 (q) : Value)) a b))

def word_Mul.c0 {γ : Type} (k : Int → γ) (a : Int) (b : Int) (t1 : Int) (t2 : Int) (t3 : Int) (t4 : Int) : γ := k (t4)
def word_Mul.c {γ : Type} (k : Int → γ) (a : Int) (b : Int) : γ := let t1 := IntKind.u64.wrap a; let t2 := IntKind.u64.wrap b; let t3 := IntKind.u64.wrap (t1 * t2); let t4 := IntKind.i64.wrap t3; word_Mul.c0 k a b t1 t2 t3 t4
def word_Mul (a : Int) (b : Int) : Int := word_Mul.c id a b
def word_Mul.F : FV := mkF (cP (cI .i64) (cP (cI .i64) cU)) (fun _ => true) (fun | (a, (b, ())) => .int .i64 (word_Mul a b))
def L_word_Mul : TL := (52, word_Mul.F) :: L_word_Sub
theorem word_Mul.p0 {γ : Type} (k : Int → γ) (a : Int) (b : Int) (t1 : Int) (t2 : Int) (t3 : Int) (t4 : Int) : word_Mul.c0 k a b t1 t2 t3 t4 = k (word_Mul.c0 id a b t1 t2 t3 t4) := by
  unfold word_Mul.c0; (repeat' (first | (apply pc k) | (exact rfl)))
theorem word_Mul.p {γ : Type} (k : Int → γ) (a : Int) (b : Int) : word_Mul.c k a b = k (word_Mul a b) :=
  let t1 := IntKind.u64.wrap a; let t2 := IntKind.u64.wrap b; let t3 := IntKind.u64.wrap (t1 * t2); let t4 := IntKind.i64.wrap t3; word_Mul.p0 k a b t1 t2 t3 t4
theorem word_Mul.r (a : Int) (b : Int) : runF P G (tab L_word_Sub) { merge := true } 60 Tryd.f52 [.int .i64 a, .int .i64 b] = word_Mul.c (fun q => some (.int .i64 (q) : Value)) a b := by kernel_rfl
theorem word_Mul.t : TabOK P G (tab L_word_Mul) :=
  TabOK_mk C word_Sub.t Tryd.func52 (by kernel_rfl) true 60 (by
    rintro ⟨a, ⟨b, ⟨⟩⟩⟩ h
    exact (word_Mul.r a b).trans (word_Mul.p (fun q => some (.int .i64 (q) : Value)) a b))

def word_Neg.c0 {γ : Type} (k : Int → γ) (a : Int) (t1 : Int) : γ := k (t1)
def word_Neg.c {γ : Type} (k : Int → γ) (a : Int) : γ := let t1 := word_Sub 0 a; word_Neg.c0 k a t1
def word_Neg (a : Int) : Int := word_Neg.c id a
def word_Neg.F : FV := mkF (cP (cI .i64) cU) (fun _ => true) (fun | (a, ()) => .int .i64 (word_Neg a))
def L_word_Neg : TL := (71, word_Neg.F) :: L_word_Mul
theorem word_Neg.p0 {γ : Type} (k : Int → γ) (a : Int) (t1 : Int) : word_Neg.c0 k a t1 = k (word_Neg.c0 id a t1) := by
  unfold word_Neg.c0; (repeat' (first | (apply pc k) | (exact rfl)))
theorem word_Neg.p {γ : Type} (k : Int → γ) (a : Int) : word_Neg.c k a = k (word_Neg a) :=
  let t1 := word_Sub 0 a; word_Neg.p0 k a t1
theorem word_Neg.r (a : Int) : runF P G (tab L_word_Mul) { merge := true } 60 Tryd.f71 [.int .i64 a] = word_Neg.c (fun q => some (.int .i64 (q) : Value)) a := by kernel_rfl
theorem word_Neg.t : TabOK P G (tab L_word_Neg) :=
  TabOK_mk C word_Mul.t Tryd.func71 (by kernel_rfl) true 60 (by
    rintro ⟨a, ⟨⟩⟩ h
    exact (word_Neg.r a).trans (word_Neg.p (fun q => some (.int .i64 (q) : Value)) a))

def word_Div.c0 {γ : Type} (n : γ) (k : Int × Bool → γ) (a : Int) (b : Int) (t1 : Int) (t2 : Int) : γ := bif b == 0
  then k (0, false)
  else bif b == -1
   then k (t1, true)
   else bif !decide (b = 0)
    then k (t2, true)
    else n
def word_Div.c {γ : Type} (n : γ) (k : Int × Bool → γ) (a : Int) (b : Int) : γ := let t1 := word_Neg a; let t2 := IntKind.i64.wrap (a.tdiv b); word_Div.c0 n k a b t1 t2
def word_Div.ok (a : Int) (b : Int) : Bool := word_Div.c false (fun _ => true) a b
def word_Div (a : Int) (b : Int) : Int × Bool := word_Div.c (0, false) id a b
def word_Div.F : FV := mkF (cP (cI .i64) (cP (cI .i64) cU)) (fun _ => true) (fun | (a, (b, ())) => .tuple #[.int .i64 (word_Div a b).1, .bool (word_Div a b).2])
def L_word_Div : TL := (58, word_Div.F) :: L_word_Neg
theorem word_Div.okt (a : Int) (b : Int) : word_Div.ok a b = true := by
  unfold word_Div.ok word_Div.c word_Div.c0; by_cases h : b = 0 <;> simp [h]
theorem word_Div.p0 {γ : Type} (k : Int × Bool → γ) (a : Int) (b : Int) (t1 : Int) (t2 : Int) : word_Div.c0 false (fun _ => true) a b t1 t2 = true → word_Div.c0 none (fun q => some (k q)) a b t1 t2 = some (k (word_Div.c0 (0, false) id a b t1 t2)) := by
  unfold word_Div.c0; (repeat' (first | (apply pn k) | (exact pn_none _ _) | (exact pn_leaf k _)))
theorem word_Div.p {γ : Type} (k : Int × Bool → γ) (a : Int) (b : Int) (h : word_Div.ok a b = true) : word_Div.c none (fun q => some (k q)) a b = some (k (word_Div a b)) :=
  let t1 := word_Neg a; let t2 := IntKind.i64.wrap (a.tdiv b); word_Div.p0 k a b t1 t2 h
theorem word_Div.r (a : Int) (b : Int) : runF P G (tab L_word_Neg) { merge := true } 60 Tryd.f58 [.int .i64 a, .int .i64 b] = word_Div.c none (fun q => some (.tuple #[.int .i64 (q).1, .bool (q).2] : Value)) a b := by kernel_rfl
theorem word_Div.t : TabOK P G (tab L_word_Div) :=
  TabOK_mk C word_Neg.t Tryd.func58 (by kernel_rfl) true 60 (by
    rintro ⟨a, ⟨b, ⟨⟩⟩⟩ h
    exact (word_Div.r a b).trans (word_Div.p (fun q => (.tuple #[.int .i64 (q).1, .bool (q).2] : Value)) a b (word_Div.okt a b)))

def word_Rem.c {γ : Type} (n : γ) (k : Int × Bool → γ) (a : Int) (b : Int) : γ := bif b == 0
  then k (0, false)
  else bif b == -1
   then k (0, true)
   else bif !decide (b = 0)
    then k (a.tmod b, true)
    else n
def word_Rem.ok (a : Int) (b : Int) : Bool := word_Rem.c false (fun _ => true) a b
def word_Rem (a : Int) (b : Int) : Int × Bool := word_Rem.c (0, false) id a b
def word_Rem.F : FV := mkF (cP (cI .i64) (cP (cI .i64) cU)) (fun _ => true) (fun | (a, (b, ())) => .tuple #[.int .i64 (word_Rem a b).1, .bool (word_Rem a b).2])
def L_word_Rem : TL := (62, word_Rem.F) :: L_word_Div
theorem word_Rem.okt (a : Int) (b : Int) : word_Rem.ok a b = true := by
  unfold word_Rem.ok word_Rem.c; by_cases h : b = 0 <;> simp [h]
theorem word_Rem.p {γ : Type} (k : Int × Bool → γ) (a : Int) (b : Int) (h : word_Rem.ok a b = true) : word_Rem.c none (fun q => some (k q)) a b = some (k (word_Rem a b)) := by
  revert h; unfold word_Rem word_Rem.ok word_Rem.c; (repeat' (first | (apply pn k) | (exact pn_none _ _) | (exact pn_leaf k _)))
theorem word_Rem.r (a : Int) (b : Int) : runF P G (tab L_word_Div) { merge := true } 60 Tryd.f62 [.int .i64 a, .int .i64 b] = word_Rem.c none (fun q => some (.tuple #[.int .i64 (q).1, .bool (q).2] : Value)) a b := by kernel_rfl
theorem word_Rem.t : TabOK P G (tab L_word_Rem) :=
  TabOK_mk C word_Div.t Tryd.func62 (by kernel_rfl) true 60 (by
    rintro ⟨a, ⟨b, ⟨⟩⟩⟩ h
    exact (word_Rem.r a b).trans (word_Rem.p (fun q => (.tuple #[.int .i64 (q).1, .bool (q).2] : Value)) a b (word_Rem.okt a b)))

def bits_Mul64.c0 {γ : Type} (k : Int × Int → γ) (a : Int) (b : Int) (t1 : Int) (t2 : Int) (t3 : Int) (t4 : Int) (t5 : Int) (t6 : Int) (t7 : Int) (t8 : Int) (t9 : Int) (t10 : Int) (t11 : Int) (t12 : Int) : γ := k (t11, t12)
def bits_Mul64.c {γ : Type} (k : Int × Int → γ) (a : Int) (b : Int) : γ := let t1 := IntKind.u64.wrap (a.fdiv (2 ^ min (Int.toNat 32) IntKind.u64.bits) * b.fdiv (2 ^ min (Int.toNat 32) IntKind.u64.bits)); let t2 := IntKind.u64.wrap ↑(BitVec.ofInt IntKind.u64.bits b &&& BitVec.ofInt IntKind.u64.bits 4294967295).toNat; let t3 := IntKind.u64.wrap (a.fdiv (2 ^ min (Int.toNat 32) IntKind.u64.bits) * t2); let t4 := IntKind.u64.wrap ↑(BitVec.ofInt IntKind.u64.bits a &&& BitVec.ofInt IntKind.u64.bits 4294967295).toNat; let t5 := IntKind.u64.wrap (t4 * t2); let t6 := IntKind.u64.wrap (t3 + t5.fdiv (2 ^ min (Int.toNat 32) IntKind.u64.bits)); let t7 := IntKind.u64.wrap (t1 + t6.fdiv (2 ^ min (Int.toNat 32) IntKind.u64.bits)); let t8 := IntKind.u64.wrap ↑(BitVec.ofInt IntKind.u64.bits (IntKind.u64.wrap (IntKind.u64.wrap (a.fdiv (2 ^ min (Int.toNat 32) IntKind.u64.bits) * IntKind.u64.wrap ↑(BitVec.ofInt IntKind.u64.bits b &&& BitVec.ofInt IntKind.u64.bits 4294967295).toNat) + (IntKind.u64.wrap (IntKind.u64.wrap ↑(BitVec.ofInt IntKind.u64.bits a &&& BitVec.ofInt IntKind.u64.bits 4294967295).toNat * IntKind.u64.wrap ↑(BitVec.ofInt IntKind.u64.bits b &&& BitVec.ofInt IntKind.u64.bits 4294967295).toNat)).fdiv (2 ^ min (Int.toNat 32) IntKind.u64.bits))) &&& BitVec.ofInt IntKind.u64.bits 4294967295).toNat; let t9 := IntKind.u64.wrap (t4 * b.fdiv (2 ^ min (Int.toNat 32) IntKind.u64.bits)); let t10 := IntKind.u64.wrap (t8 + t9); let t11 := IntKind.u64.wrap (t7 + t10.fdiv (2 ^ min (Int.toNat 32) IntKind.u64.bits)); let t12 := IntKind.u64.wrap (a * b); bits_Mul64.c0 k a b t1 t2 t3 t4 t5 t6 t7 t8 t9 t10 t11 t12
def bits_Mul64 (a : Int) (b : Int) : Int × Int := bits_Mul64.c id a b
def bits_Mul64.F : FV := mkF (cP (cI .u64) (cP (cI .u64) cU)) (fun _ => true) (fun | (a, (b, ())) => .tuple #[.int .u64 (bits_Mul64 a b).1, .int .u64 (bits_Mul64 a b).2])
def L_bits_Mul64 : TL := (69, bits_Mul64.F) :: L_word_Rem
theorem bits_Mul64.p0 {γ : Type} (k : Int × Int → γ) (a : Int) (b : Int) (t1 : Int) (t2 : Int) (t3 : Int) (t4 : Int) (t5 : Int) (t6 : Int) (t7 : Int) (t8 : Int) (t9 : Int) (t10 : Int) (t11 : Int) (t12 : Int) : bits_Mul64.c0 k a b t1 t2 t3 t4 t5 t6 t7 t8 t9 t10 t11 t12 = k (bits_Mul64.c0 id a b t1 t2 t3 t4 t5 t6 t7 t8 t9 t10 t11 t12) := by
  unfold bits_Mul64.c0; (repeat' (first | (apply pc k) | (exact rfl)))
theorem bits_Mul64.p {γ : Type} (k : Int × Int → γ) (a : Int) (b : Int) : bits_Mul64.c k a b = k (bits_Mul64 a b) :=
  let t1 := IntKind.u64.wrap (a.fdiv (2 ^ min (Int.toNat 32) IntKind.u64.bits) * b.fdiv (2 ^ min (Int.toNat 32) IntKind.u64.bits)); let t2 := IntKind.u64.wrap ↑(BitVec.ofInt IntKind.u64.bits b &&& BitVec.ofInt IntKind.u64.bits 4294967295).toNat; let t3 := IntKind.u64.wrap (a.fdiv (2 ^ min (Int.toNat 32) IntKind.u64.bits) * t2); let t4 := IntKind.u64.wrap ↑(BitVec.ofInt IntKind.u64.bits a &&& BitVec.ofInt IntKind.u64.bits 4294967295).toNat; let t5 := IntKind.u64.wrap (t4 * t2); let t6 := IntKind.u64.wrap (t3 + t5.fdiv (2 ^ min (Int.toNat 32) IntKind.u64.bits)); let t7 := IntKind.u64.wrap (t1 + t6.fdiv (2 ^ min (Int.toNat 32) IntKind.u64.bits)); let t8 := IntKind.u64.wrap ↑(BitVec.ofInt IntKind.u64.bits (IntKind.u64.wrap (IntKind.u64.wrap (a.fdiv (2 ^ min (Int.toNat 32) IntKind.u64.bits) * IntKind.u64.wrap ↑(BitVec.ofInt IntKind.u64.bits b &&& BitVec.ofInt IntKind.u64.bits 4294967295).toNat) + (IntKind.u64.wrap (IntKind.u64.wrap ↑(BitVec.ofInt IntKind.u64.bits a &&& BitVec.ofInt IntKind.u64.bits 4294967295).toNat * IntKind.u64.wrap ↑(BitVec.ofInt IntKind.u64.bits b &&& BitVec.ofInt IntKind.u64.bits 4294967295).toNat)).fdiv (2 ^ min (Int.toNat 32) IntKind.u64.bits))) &&& BitVec.ofInt IntKind.u64.bits 4294967295).toNat; let t9 := IntKind.u64.wrap (t4 * b.fdiv (2 ^ min (Int.toNat 32) IntKind.u64.bits)); let t10 := IntKind.u64.wrap (t8 + t9); let t11 := IntKind.u64.wrap (t7 + t10.fdiv (2 ^ min (Int.toNat 32) IntKind.u64.bits)); let t12 := IntKind.u64.wrap (a * b); bits_Mul64.p0 k a b t1 t2 t3 t4 t5 t6 t7 t8 t9 t10 t11 t12
theorem bits_Mul64.r (a : Int) (b : Int) : runF P G (tab L_word_Rem) { merge := true } 60 Tryd.f69 [.int .u64 a, .int .u64 b] = bits_Mul64.c (fun q => some (.tuple #[.int .u64 (q).1, .int .u64 (q).2] : Value)) a b := by kernel_rfl
theorem bits_Mul64.t : TabOK P G (tab L_bits_Mul64) :=
  TabOK_mk C word_Rem.t Tryd.func69 (by kernel_rfl) true 60 (by
    rintro ⟨a, ⟨b, ⟨⟩⟩⟩ h
    exact (bits_Mul64.r a b).trans (bits_Mul64.p (fun q => some (.tuple #[.int .u64 (q).1, .int .u64 (q).2] : Value)) a b))

def word_Wide.c0 {γ : Type} (k : Int × Int → γ) (a : Int) (b : Int) (t1 : Int) (t2 : Int) (t3 : Int × Int) (t4 : Int) (t5 : Int) (t6 : Int) (t7 : Int) (t8 : Int) : γ := k (t8, t3.snd)
def word_Wide.c {γ : Type} (k : Int × Int → γ) (a : Int) (b : Int) : γ := let t1 := IntKind.u64.wrap a; let t2 := IntKind.u64.wrap b; let t3 := bits_Mul64 t1 t2; let t4 := IntKind.u64.wrap (t3.fst - t2); let t5 := bif decide (a < 0) then t4 else t3.fst; let t6 := IntKind.u64.wrap (t5 - t1); let t7 := bif decide (b < 0) then t6 else t5; let t8 := IntKind.i64.wrap t7; word_Wide.c0 k a b t1 t2 t3 t4 t5 t6 t7 t8
def word_Wide (a : Int) (b : Int) : Int × Int := word_Wide.c id a b
def word_Wide.F : FV := mkF (cP (cI .i64) (cP (cI .i64) cU)) (fun _ => true) (fun | (a, (b, ())) => .tuple #[.int .i64 (word_Wide a b).1, .int .u64 (word_Wide a b).2])
def L_word_Wide : TL := (51, word_Wide.F) :: L_bits_Mul64
theorem word_Wide.p0 {γ : Type} (k : Int × Int → γ) (a : Int) (b : Int) (t1 : Int) (t2 : Int) (t3 : Int × Int) (t4 : Int) (t5 : Int) (t6 : Int) (t7 : Int) (t8 : Int) : word_Wide.c0 k a b t1 t2 t3 t4 t5 t6 t7 t8 = k (word_Wide.c0 id a b t1 t2 t3 t4 t5 t6 t7 t8) := by
  unfold word_Wide.c0; (repeat' (first | (apply pc k) | (exact rfl)))
theorem word_Wide.p {γ : Type} (k : Int × Int → γ) (a : Int) (b : Int) : word_Wide.c k a b = k (word_Wide a b) :=
  let t1 := IntKind.u64.wrap a; let t2 := IntKind.u64.wrap b; let t3 := bits_Mul64 t1 t2; let t4 := IntKind.u64.wrap (t3.fst - t2); let t5 := bif decide (a < 0) then t4 else t3.fst; let t6 := IntKind.u64.wrap (t5 - t1); let t7 := bif decide (b < 0) then t6 else t5; let t8 := IntKind.i64.wrap t7; word_Wide.p0 k a b t1 t2 t3 t4 t5 t6 t7 t8
theorem word_Wide.r (a : Int) (b : Int) : runF P G (tab L_bits_Mul64) { merge := true } 60 Tryd.f51 [.int .i64 a, .int .i64 b] = word_Wide.c (fun q => some (.tuple #[.int .i64 (q).1, .int .u64 (q).2] : Value)) a b := by kernel_rfl
theorem word_Wide.t : TabOK P G (tab L_word_Wide) :=
  TabOK_mk C bits_Mul64.t Tryd.func51 (by kernel_rfl) true 60 (by
    rintro ⟨a, ⟨b, ⟨⟩⟩⟩ h
    exact (word_Wide.r a b).trans (word_Wide.p (fun q => some (.tuple #[.int .i64 (q).1, .int .u64 (q).2] : Value)) a b))

def ival_shifted.c {γ : Type} (k : Int × Int × Bool → γ) (a : Int) (b : Int) (c : Int) (d : Int) : γ := bif c != d
  then k (-9223372036854775808, 9223372036854775807, false)
  else k (a, b, c == 0)
def ival_shifted (a : Int) (b : Int) (c : Int) (d : Int) : Int × Int × Bool := ival_shifted.c id a b c d
def ival_shifted.F : FV := mkF (cP (cI .i64) (cP (cI .i64) (cP (cI .i64) (cP (cI .i64) cU)))) (fun _ => true) (fun | (a, (b, (c, (d, ())))) => .tuple #[.agg #[.int .i64 (ival_shifted a b c d).1, .int .i64 (ival_shifted a b c d).2.1], .bool (ival_shifted a b c d).2.2])
def L_ival_shifted : TL := (43, ival_shifted.F) :: L_word_Wide
theorem ival_shifted.p {γ : Type} (k : Int × Int × Bool → γ) (a : Int) (b : Int) (c : Int) (d : Int) : ival_shifted.c k a b c d = k (ival_shifted a b c d) := by
  unfold ival_shifted ival_shifted.c; (repeat' (first | (apply pc k) | (exact rfl)))
theorem ival_shifted.r (a : Int) (b : Int) (c : Int) (d : Int) : runF P G (tab L_word_Wide) { merge := true } 60 Tryd.f43 [.int .i64 a, .int .i64 b, .int .i64 c, .int .i64 d] = ival_shifted.c (fun q => some (.tuple #[.agg #[.int .i64 (q).1, .int .i64 (q).2.1], .bool (q).2.2] : Value)) a b c d := by kernel_rfl
theorem ival_shifted.t : TabOK P G (tab L_ival_shifted) :=
  TabOK_mk C word_Wide.t Tryd.func43 (by kernel_rfl) true 60 (by
    rintro ⟨a, ⟨b, ⟨c, ⟨d, ⟨⟩⟩⟩⟩⟩ h
    exact (ival_shifted.r a b c d).trans (ival_shifted.p (fun q => some (.tuple #[.agg #[.int .i64 (q).1, .int .i64 (q).2.1], .bool (q).2.2] : Value)) a b c d))

def ival_beyond.c0 {γ : Type} (k : Int → γ) (a : Int) (b : Int) (t1 : Int) : γ := bif decide (a ≥ 0)
  then bif decide (b ≥ 0)
   then bif decide (t1 < 0)
    then k (1)
    else bif decide (a < 0)
     then bif decide (b < 0)
      then bif decide (t1 ≥ 0)
       then k (-1)
       else k (0)
      else k (0)
     else k (0)
   else bif decide (a < 0)
    then bif decide (b < 0)
     then bif decide (t1 ≥ 0)
      then k (-1)
      else k (0)
     else k (0)
    else k (0)
  else bif decide (a < 0)
   then bif decide (b < 0)
    then bif decide (t1 ≥ 0)
     then k (-1)
     else k (0)
    else k (0)
   else k (0)
def ival_beyond.c {γ : Type} (k : Int → γ) (a : Int) (b : Int) : γ := let t1 := word_Add a b; ival_beyond.c0 k a b t1
def ival_beyond (a : Int) (b : Int) : Int := ival_beyond.c id a b
def ival_beyond.F : FV := mkF (cP (cI .i64) (cP (cI .i64) cU)) (fun _ => true) (fun | (a, (b, ())) => .int .i64 (ival_beyond a b))
def L_ival_beyond : TL := (45, ival_beyond.F) :: L_ival_shifted
theorem ival_beyond.p0 {γ : Type} (k : Int → γ) (a : Int) (b : Int) (t1 : Int) : ival_beyond.c0 k a b t1 = k (ival_beyond.c0 id a b t1) := by
  unfold ival_beyond.c0; (repeat' (first | (apply pc k) | (exact rfl)))
theorem ival_beyond.p {γ : Type} (k : Int → γ) (a : Int) (b : Int) : ival_beyond.c k a b = k (ival_beyond a b) :=
  let t1 := word_Add a b; ival_beyond.p0 k a b t1
theorem ival_beyond.r (a : Int) (b : Int) : runF P G (tab L_ival_shifted) { merge := true } 60 Tryd.f45 [.int .i64 a, .int .i64 b] = ival_beyond.c (fun q => some (.int .i64 (q) : Value)) a b := by kernel_rfl
theorem ival_beyond.t : TabOK P G (tab L_ival_beyond) :=
  TabOK_mk C ival_shifted.t Tryd.func45 (by kernel_rfl) true 60 (by
    rintro ⟨a, ⟨b, ⟨⟩⟩⟩ h
    exact (ival_beyond.r a b).trans (ival_beyond.p (fun q => some (.int .i64 (q) : Value)) a b))

end Go.Proofs.YtbbplkdjcgdaaaaDoor.V
