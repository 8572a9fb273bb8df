/- What the functions of this seat compute, told by evaluation of their code. Conditions: none. -/
import Derived.Test.YtbbplkdjcgdaaaaDoorE1
set_option linter.unusedVariables false
set_option linter.unusedSimpArgs false
namespace Go.Proofs.YtbbplkdjcgdaaaaDoor.V
open Go Go.Wk

def ival_short.c0 {γ : Type} (k : Int → γ) (a : Int) (b : Int) (t1 : Int) : γ := bif decide (a ≥ 0)
  then bif decide (b < 0)
   then bif decide (t1 < 0)
    then k (1)
    else bif decide (a < 0)
     then bif decide (b ≥ 0)
      then bif decide (t1 ≥ 0)
       then k (-1)
       else k (0)
      else k (0)
     else k (0)
   else bif decide (a < 0)
    then bif decide (b ≥ 0)
     then bif decide (t1 ≥ 0)
      then k (-1)
      else k (0)
     else k (0)
    else k (0)
  else bif decide (a < 0)
   then bif decide (b ≥ 0)
    then bif decide (t1 ≥ 0)
     then k (-1)
     else k (0)
    else k (0)
   else k (0)
def ival_short.c {γ : Type} (k : Int → γ) (a : Int) (b : Int) : γ := let t1 := word_Sub a b; ival_short.c0 k a b t1
def ival_short (a : Int) (b : Int) : Int := ival_short.c id a b
def ival_short.F : FV := mkF (cP (cI .i64) (cP (cI .i64) cU)) (fun _ => true) (fun | (a, (b, ())) => .int .i64 (ival_short a b))
def L_ival_short : TL := (48, ival_short.F) :: L_ival_beyond
theorem ival_short.p0 {γ : Type} (k : Int → γ) (a : Int) (b : Int) (t1 : Int) : ival_short.c0 k a b t1 = k (ival_short.c0 id a b t1) := by
  unfold ival_short.c0; (repeat' (first | (apply pc k) | (exact rfl)))
theorem ival_short.p {γ : Type} (k : Int → γ) (a : Int) (b : Int) : ival_short.c k a b = k (ival_short a b) :=
  let t1 := word_Sub a b; ival_short.p0 k a b t1
theorem ival_short.r (a : Int) (b : Int) : runF P G (tab L_ival_beyond) { merge := true } 60 Tryd.f48 [.int .i64 a, .int .i64 b] = ival_short.c (fun q => some (.int .i64 (q) : Value)) a b := by kernel_rfl
theorem ival_short.t : TabOK P G (tab L_ival_short) :=
  TabOK_mk C ival_beyond.t Tryd.func48 (by kernel_rfl) true 60 (by
    rintro ⟨a, ⟨b, ⟨⟩⟩⟩ h
    exact (ival_short.r a b).trans (ival_short.p (fun q => some (.int .i64 (q) : Value)) a b))

def ival_Add.c0 {γ : Type} (k : Int × Int × Bool → γ) (a0 : Int) (a1 : Int) (b0 : Int) (b1 : Int) (t1 : Bool) (t2 : Bool) (t3 : Int) (t4 : Int) (t5 : Int) (t6 : Int) (t7 : Int × Int × Bool) : γ := bif t1
  then k (1, 0, true)
  else bif t2
   then k (1, 0, true)
   else k (t7.fst, t7.snd.fst, t7.snd.snd)
def ival_Add.c {γ : Type} (k : Int × Int × Bool → γ) (a0 : Int) (a1 : Int) (b0 : Int) (b1 : Int) : γ := let t1 := ival_none a0 a1; let t2 := ival_none b0 b1; let t3 := word_Add a0 b0; let t4 := word_Add a1 b1; let t5 := ival_beyond a0 b0; let t6 := ival_beyond a1 b1; let t7 := ival_shifted t3 t4 t5 t6; ival_Add.c0 k a0 a1 b0 b1 t1 t2 t3 t4 t5 t6 t7
def ival_Add (a0 : Int) (a1 : Int) (b0 : Int) (b1 : Int) : Int × Int × Bool := ival_Add.c id a0 a1 b0 b1
def ival_Add.F : FV := mkF (cP (cA (cP (cI .i64) (cP (cI .i64) cU))) (cP (cA (cP (cI .i64) (cP (cI .i64) cU))) cU)) (fun _ => true) (fun | ((a0, (a1, ())), ((b0, (b1, ())), ())) => .tuple #[.agg #[.int .i64 (ival_Add a0 a1 b0 b1).1, .int .i64 (ival_Add a0 a1 b0 b1).2.1], .bool (ival_Add a0 a1 b0 b1).2.2])
def L_ival_Add : TL := (21, ival_Add.F) :: L_ival_short
theorem ival_Add.p0 {γ : Type} (k : Int × Int × Bool → γ) (a0 : Int) (a1 : Int) (b0 : Int) (b1 : Int) (t1 : Bool) (t2 : Bool) (t3 : Int) (t4 : Int) (t5 : Int) (t6 : Int) (t7 : Int × Int × Bool) : ival_Add.c0 k a0 a1 b0 b1 t1 t2 t3 t4 t5 t6 t7 = k (ival_Add.c0 id a0 a1 b0 b1 t1 t2 t3 t4 t5 t6 t7) := by
  unfold ival_Add.c0; (repeat' (first | (apply pc k) | (exact rfl)))
theorem ival_Add.p {γ : Type} (k : Int × Int × Bool → γ) (a0 : Int) (a1 : Int) (b0 : Int) (b1 : Int) : ival_Add.c k a0 a1 b0 b1 = k (ival_Add a0 a1 b0 b1) :=
  let t1 := ival_none a0 a1; let t2 := ival_none b0 b1; let t3 := word_Add a0 b0; let t4 := word_Add a1 b1; let t5 := ival_beyond a0 b0; let t6 := ival_beyond a1 b1; let t7 := ival_shifted t3 t4 t5 t6; ival_Add.p0 k a0 a1 b0 b1 t1 t2 t3 t4 t5 t6 t7
theorem ival_Add.r (a0 : Int) (a1 : Int) (b0 : Int) (b1 : Int) : runF P G (tab L_ival_short) { merge := true } 60 Tryd.f21 [.agg #[.int .i64 a0, .int .i64 a1], .agg #[.int .i64 b0, .int .i64 b1]] = ival_Add.c (fun q => some (.tuple #[.agg #[.int .i64 (q).1, .int .i64 (q).2.1], .bool (q).2.2] : Value)) a0 a1 b0 b1 := by kernel_rfl
theorem ival_Add.t : TabOK P G (tab L_ival_Add) :=
  TabOK_mk C ival_short.t Tryd.func21 (by kernel_rfl) true 60 (by
    rintro ⟨⟨a0, ⟨a1, ⟨⟩⟩⟩, ⟨⟨b0, ⟨b1, ⟨⟩⟩⟩, ⟨⟩⟩⟩ h
    exact (ival_Add.r a0 a1 b0 b1).trans (ival_Add.p (fun q => some (.tuple #[.agg #[.int .i64 (q).1, .int .i64 (q).2.1], .bool (q).2.2] : Value)) a0 a1 b0 b1))

def ival_Sub.c0 {γ : Type} (k : Int × Int × Bool → γ) (a0 : Int) (a1 : Int) (b0 : Int) (b1 : Int) (t1 : Bool) (t2 : Bool) (t3 : Int) (t4 : Int) (t5 : Int) (t6 : Int) (t7 : Int × Int × Bool) : γ := bif t1
  then k (1, 0, true)
  else bif t2
   then k (1, 0, true)
   else k (t7.fst, t7.snd.fst, t7.snd.snd)
def ival_Sub.c {γ : Type} (k : Int × Int × Bool → γ) (a0 : Int) (a1 : Int) (b0 : Int) (b1 : Int) : γ := let t1 := ival_none a0 a1; let t2 := ival_none b0 b1; let t3 := word_Sub a0 b1; let t4 := word_Sub a1 b0; let t5 := ival_short a0 b1; let t6 := ival_short a1 b0; let t7 := ival_shifted t3 t4 t5 t6; ival_Sub.c0 k a0 a1 b0 b1 t1 t2 t3 t4 t5 t6 t7
def ival_Sub (a0 : Int) (a1 : Int) (b0 : Int) (b1 : Int) : Int × Int × Bool := ival_Sub.c id a0 a1 b0 b1
def ival_Sub.F : FV := mkF (cP (cA (cP (cI .i64) (cP (cI .i64) cU))) (cP (cA (cP (cI .i64) (cP (cI .i64) cU))) cU)) (fun _ => true) (fun | ((a0, (a1, ())), ((b0, (b1, ())), ())) => .tuple #[.agg #[.int .i64 (ival_Sub a0 a1 b0 b1).1, .int .i64 (ival_Sub a0 a1 b0 b1).2.1], .bool (ival_Sub a0 a1 b0 b1).2.2])
def L_ival_Sub : TL := (23, ival_Sub.F) :: L_ival_Add
theorem ival_Sub.p0 {γ : Type} (k : Int × Int × Bool → γ) (a0 : Int) (a1 : Int) (b0 : Int) (b1 : Int) (t1 : Bool) (t2 : Bool) (t3 : Int) (t4 : Int) (t5 : Int) (t6 : Int) (t7 : Int × Int × Bool) : ival_Sub.c0 k a0 a1 b0 b1 t1 t2 t3 t4 t5 t6 t7 = k (ival_Sub.c0 id a0 a1 b0 b1 t1 t2 t3 t4 t5 t6 t7) := by
  unfold ival_Sub.c0; (repeat' (first | (apply pc k) | (exact rfl)))
theorem ival_Sub.p {γ : Type} (k : Int × Int × Bool → γ) (a0 : Int) (a1 : Int) (b0 : Int) (b1 : Int) : ival_Sub.c k a0 a1 b0 b1 = k (ival_Sub a0 a1 b0 b1) :=
  let t1 := ival_none a0 a1; let t2 := ival_none b0 b1; let t3 := word_Sub a0 b1; let t4 := word_Sub a1 b0; let t5 := ival_short a0 b1; let t6 := ival_short a1 b0; let t7 := ival_shifted t3 t4 t5 t6; ival_Sub.p0 k a0 a1 b0 b1 t1 t2 t3 t4 t5 t6 t7
theorem ival_Sub.r (a0 : Int) (a1 : Int) (b0 : Int) (b1 : Int) : runF P G (tab L_ival_Add) { merge := true } 60 Tryd.f23 [.agg #[.int .i64 a0, .int .i64 a1], .agg #[.int .i64 b0, .int .i64 b1]] = ival_Sub.c (fun q => some (.tuple #[.agg #[.int .i64 (q).1, .int .i64 (q).2.1], .bool (q).2.2] : Value)) a0 a1 b0 b1 := by kernel_rfl
theorem ival_Sub.t : TabOK P G (tab L_ival_Sub) :=
  TabOK_mk C ival_Add.t Tryd.func23 (by kernel_rfl) true 60 (by
    rintro ⟨⟨a0, ⟨a1, ⟨⟩⟩⟩, ⟨⟨b0, ⟨b1, ⟨⟩⟩⟩, ⟨⟩⟩⟩ h
    exact (ival_Sub.r a0 a1 b0 b1).trans (ival_Sub.p (fun q => some (.tuple #[.agg #[.int .i64 (q).1, .int .i64 (q).2.1], .bool (q).2.2] : Value)) a0 a1 b0 b1))

def ival_Neg.c0 {γ : Type} (k : Int × Int × Bool → γ) (a0 : Int) (a1 : Int) (t1 : Int × Int × Bool) : γ := k (t1.fst, t1.snd.fst, t1.snd.snd)
def ival_Neg.c {γ : Type} (k : Int × Int × Bool → γ) (a0 : Int) (a1 : Int) : γ := let t1 := ival_Sub 0 0 a0 a1; ival_Neg.c0 k a0 a1 t1
def ival_Neg (a0 : Int) (a1 : Int) : Int × Int × Bool := ival_Neg.c id a0 a1
def ival_Neg.F : FV := mkF (cP (cA (cP (cI .i64) (cP (cI .i64) cU))) cU) (fun _ => true) (fun | ((a0, (a1, ())), ()) => .tuple #[.agg #[.int .i64 (ival_Neg a0 a1).1, .int .i64 (ival_Neg a0 a1).2.1], .bool (ival_Neg a0 a1).2.2])
def L_ival_Neg : TL := (19, ival_Neg.F) :: L_ival_Sub
theorem ival_Neg.p0 {γ : Type} (k : Int × Int × Bool → γ) (a0 : Int) (a1 : Int) (t1 : Int × Int × Bool) : ival_Neg.c0 k a0 a1 t1 = k (ival_Neg.c0 id a0 a1 t1) := by
  unfold ival_Neg.c0; (repeat' (first | (apply pc k) | (exact rfl)))
theorem ival_Neg.p {γ : Type} (k : Int × Int × Bool → γ) (a0 : Int) (a1 : Int) : ival_Neg.c k a0 a1 = k (ival_Neg a0 a1) :=
  let t1 := ival_Sub 0 0 a0 a1; ival_Neg.p0 k a0 a1 t1
theorem ival_Neg.r (a0 : Int) (a1 : Int) : runF P G (tab L_ival_Sub) { merge := true } 60 Tryd.f19 [.agg #[.int .i64 a0, .int .i64 a1]] = ival_Neg.c (fun q => some (.tuple #[.agg #[.int .i64 (q).1, .int .i64 (q).2.1], .bool (q).2.2] : Value)) a0 a1 := by kernel_rfl
theorem ival_Neg.t : TabOK P G (tab L_ival_Neg) :=
  TabOK_mk C ival_Sub.t Tryd.func19 (by kernel_rfl) true 60 (by
    rintro ⟨⟨a0, ⟨a1, ⟨⟩⟩⟩, ⟨⟩⟩ h
    exact (ival_Neg.r a0 a1).trans (ival_Neg.p (fun q => some (.tuple #[.agg #[.int .i64 (q).1, .int .i64 (q).2.1], .bool (q).2.2] : Value)) a0 a1))

def ival_distance.c0 {γ : Type} (k : Int → γ) (a : Int) (t1 : Int) (t2 : Int) : γ := bif decide (a < 0)
  then k (t2)
  else k (t1)
def ival_distance.c {γ : Type} (k : Int → γ) (a : Int) : γ := let t1 := IntKind.u64.wrap a; let t2 := IntKind.u64.wrap (0 - t1); ival_distance.c0 k a t1 t2
def ival_distance (a : Int) : Int := ival_distance.c id a
def ival_distance.F : FV := mkF (cP (cI .i64) cU) (fun _ => true) (fun | (a, ()) => .int .u64 (ival_distance a))
def L_ival_distance : TL := (63, ival_distance.F) :: L_ival_Neg
theorem ival_distance.p0 {γ : Type} (k : Int → γ) (a : Int) (t1 : Int) (t2 : Int) : ival_distance.c0 k a t1 t2 = k (ival_distance.c0 id a t1 t2) := by
  unfold ival_distance.c0; (repeat' (first | (apply pc k) | (exact rfl)))
theorem ival_distance.p {γ : Type} (k : Int → γ) (a : Int) : ival_distance.c k a = k (ival_distance a) :=
  let t1 := IntKind.u64.wrap a; let t2 := IntKind.u64.wrap (0 - t1); ival_distance.p0 k a t1 t2
theorem ival_distance.r (a : Int) : runF P G (tab L_ival_Neg) { merge := true } 60 Tryd.f63 [.int .i64 a] = ival_distance.c (fun q => some (.int .u64 (q) : Value)) a := by kernel_rfl
theorem ival_distance.t : TabOK P G (tab L_ival_distance) :=
  TabOK_mk C ival_Neg.t Tryd.func63 (by kernel_rfl) true 60 (by
    rintro ⟨a, ⟨⟩⟩ h
    exact (ival_distance.r a).trans (ival_distance.p (fun q => some (.int .u64 (q) : Value)) a))

def ival_under.c0 {γ : Type} (k : Int × Int → γ) (a0 : Int) (a1 : Int) (t1 : Int × Int) : γ := k (t1.fst, t1.snd)
def ival_under.c {γ : Type} (k : Int × Int → γ) (a0 : Int) (a1 : Int) : γ := let t1 := ival_Meet a0 a1 (-9223372036854775808) (-1); ival_under.c0 k a0 a1 t1
def ival_under (a0 : Int) (a1 : Int) : Int × Int := ival_under.c id a0 a1
def ival_under.F : FV := mkF (cP (cA (cP (cI .i64) (cP (cI .i64) cU))) cU) (fun _ => true) (fun | ((a0, (a1, ())), ()) => .agg #[.int .i64 (ival_under a0 a1).1, .int .i64 (ival_under a0 a1).2])
def L_ival_under : TL := (59, ival_under.F) :: L_ival_distance
theorem ival_under.p0 {γ : Type} (k : Int × Int → γ) (a0 : Int) (a1 : Int) (t1 : Int × Int) : ival_under.c0 k a0 a1 t1 = k (ival_under.c0 id a0 a1 t1) := by
  unfold ival_under.c0; (repeat' (first | (apply pc k) | (exact rfl)))
theorem ival_under.p {γ : Type} (k : Int × Int → γ) (a0 : Int) (a1 : Int) : ival_under.c k a0 a1 = k (ival_under a0 a1) :=
  let t1 := ival_Meet a0 a1 (-9223372036854775808) (-1); ival_under.p0 k a0 a1 t1
theorem ival_under.r (a0 : Int) (a1 : Int) : runF P G (tab L_ival_distance) { merge := true } 60 Tryd.f59 [.agg #[.int .i64 a0, .int .i64 a1]] = ival_under.c (fun q => some (.agg #[.int .i64 (q).1, .int .i64 (q).2] : Value)) a0 a1 := by kernel_rfl
theorem ival_under.t : TabOK P G (tab L_ival_under) :=
  TabOK_mk C ival_distance.t Tryd.func59 (by kernel_rfl) true 60 (by
    rintro ⟨⟨a0, ⟨a1, ⟨⟩⟩⟩, ⟨⟩⟩ h
    exact (ival_under.r a0 a1).trans (ival_under.p (fun q => some (.agg #[.int .i64 (q).1, .int .i64 (q).2] : Value)) a0 a1))

def ival_over.c0 {γ : Type} (k : Int × Int → γ) (a0 : Int) (a1 : Int) (t1 : Int × Int) : γ := k (t1.fst, t1.snd)
def ival_over.c {γ : Type} (k : Int × Int → γ) (a0 : Int) (a1 : Int) : γ := let t1 := ival_Meet a0 a1 1 9223372036854775807; ival_over.c0 k a0 a1 t1
def ival_over (a0 : Int) (a1 : Int) : Int × Int := ival_over.c id a0 a1
def ival_over.F : FV := mkF (cP (cA (cP (cI .i64) (cP (cI .i64) cU))) cU) (fun _ => true) (fun | ((a0, (a1, ())), ()) => .agg #[.int .i64 (ival_over a0 a1).1, .int .i64 (ival_over a0 a1).2])
def L_ival_over : TL := (60, ival_over.F) :: L_ival_under
theorem ival_over.p0 {γ : Type} (k : Int × Int → γ) (a0 : Int) (a1 : Int) (t1 : Int × Int) : ival_over.c0 k a0 a1 t1 = k (ival_over.c0 id a0 a1 t1) := by
  unfold ival_over.c0; (repeat' (first | (apply pc k) | (exact rfl)))
theorem ival_over.p {γ : Type} (k : Int × Int → γ) (a0 : Int) (a1 : Int) : ival_over.c k a0 a1 = k (ival_over a0 a1) :=
  let t1 := ival_Meet a0 a1 1 9223372036854775807; ival_over.p0 k a0 a1 t1
theorem ival_over.r (a0 : Int) (a1 : Int) : runF P G (tab L_ival_under) { merge := true } 60 Tryd.f60 [.agg #[.int .i64 a0, .int .i64 a1]] = ival_over.c (fun q => some (.agg #[.int .i64 (q).1, .int .i64 (q).2] : Value)) a0 a1 := by kernel_rfl
theorem ival_over.t : TabOK P G (tab L_ival_over) :=
  TabOK_mk C ival_under.t Tryd.func60 (by kernel_rfl) true 60 (by
    rintro ⟨⟨a0, ⟨a1, ⟨⟩⟩⟩, ⟨⟩⟩ h
    exact (ival_over.r a0 a1).trans (ival_over.p (fun q => some (.agg #[.int .i64 (q).1, .int .i64 (q).2] : Value)) a0 a1))

def ref_Empty.c {γ : Type} (k : Bool → γ) (a0 : Int) (a1 : Int) : γ := k (decide (a0 > a1))
def ref_Empty (a0 : Int) (a1 : Int) : Bool := ref_Empty.c id a0 a1
def ref_Empty.F : FV := mkF (cP (cA (cP (cI .i64) (cP (cI .i64) cU))) cU) (fun _ => true) (fun | ((a0, (a1, ())), ()) => .bool (ref_Empty a0 a1))
def L_ref_Empty : TL := (37, ref_Empty.F) :: L_ival_over
theorem ref_Empty.p {γ : Type} (k : Bool → γ) (a0 : Int) (a1 : Int) : ref_Empty.c k a0 a1 = k (ref_Empty a0 a1) := by
  unfold ref_Empty ref_Empty.c; (repeat' (first | (apply pc k) | (exact rfl)))
theorem ref_Empty.r (a0 : Int) (a1 : Int) : runF P G (tab L_ival_over) { merge := true } 60 Tryd.f37 [.agg #[.int .i64 a0, .int .i64 a1]] = ref_Empty.c (fun q => some (.bool (q) : Value)) a0 a1 := by kernel_rfl
theorem ref_Empty.t : TabOK P G (tab L_ref_Empty) :=
  TabOK_mk C ival_over.t Tryd.func37 (by kernel_rfl) true 60 (by
    rintro ⟨⟨a0, ⟨a1, ⟨⟩⟩⟩, ⟨⟩⟩ h
    exact (ref_Empty.r a0 a1).trans (ref_Empty.p (fun q => some (.bool (q) : Value)) a0 a1))

def ref_None.c {γ : Type} (k : Int × Int → γ)  : γ := k (1, 0)
def ref_None  : Int × Int := ref_None.c id 
def ref_None.F : FV := mkF cU (fun _ => true) (fun | () => .agg #[.int .i64 (ref_None).1, .int .i64 (ref_None).2])
def L_ref_None : TL := (39, ref_None.F) :: L_ref_Empty
theorem ref_None.p {γ : Type} (k : Int × Int → γ)  : ref_None.c k  = k (ref_None) := by
  unfold ref_None ref_None.c; (repeat' (first | (apply pc k) | (exact rfl)))
theorem ref_None.r  : runF P G (tab L_ref_Empty) { merge := true } 60 Tryd.f39 [] = ref_None.c (fun q => some (.agg #[.int .i64 (q).1, .int .i64 (q).2] : Value))  := by kernel_rfl
theorem ref_None.t : TabOK P G (tab L_ref_None) :=
  TabOK_mk C ref_Empty.t Tryd.func39 (by kernel_rfl) true 60 (by
    rintro ⟨⟩ h
    exact (ref_None.r ).trans (ref_None.p (fun q => some (.agg #[.int .i64 (q).1, .int .i64 (q).2] : Value)) ))

def ref_normal.c0 {γ : Type} (k : Int × Int → γ) (a0 : Int) (a1 : Int) (t1 : Bool) : γ := bif t1
  then k (ref_None.fst, ref_None.snd)
  else k (a0, a1)
def ref_normal.c {γ : Type} (k : Int × Int → γ) (a0 : Int) (a1 : Int) : γ := let t1 := ref_Empty a0 a1; ref_normal.c0 k a0 a1 t1
def ref_normal (a0 : Int) (a1 : Int) : Int × Int := ref_normal.c id a0 a1
def ref_normal.F : FV := mkF (cP (cA (cP (cI .i64) (cP (cI .i64) cU))) cU) (fun _ => true) (fun | ((a0, (a1, ())), ()) => .agg #[.int .i64 (ref_normal a0 a1).1, .int .i64 (ref_normal a0 a1).2])
def L_ref_normal : TL := (38, ref_normal.F) :: L_ref_None
theorem ref_normal.p0 {γ : Type} (k : Int × Int → γ) (a0 : Int) (a1 : Int) (t1 : Bool) : ref_normal.c0 k a0 a1 t1 = k (ref_normal.c0 id a0 a1 t1) := by
  unfold ref_normal.c0; (repeat' (first | (apply pc k) | (exact rfl)))
theorem ref_normal.p {γ : Type} (k : Int × Int → γ) (a0 : Int) (a1 : Int) : ref_normal.c k a0 a1 = k (ref_normal a0 a1) :=
  let t1 := ref_Empty a0 a1; ref_normal.p0 k a0 a1 t1
theorem ref_normal.r (a0 : Int) (a1 : Int) : runF P G (tab L_ref_None) { merge := true } 60 Tryd.f38 [.agg #[.int .i64 a0, .int .i64 a1]] = ref_normal.c (fun q => some (.agg #[.int .i64 (q).1, .int .i64 (q).2] : Value)) a0 a1 := by kernel_rfl
theorem ref_normal.t : TabOK P G (tab L_ref_normal) :=
  TabOK_mk C ref_None.t Tryd.func38 (by kernel_rfl) true 60 (by
    rintro ⟨⟨a0, ⟨a1, ⟨⟩⟩⟩, ⟨⟩⟩ h
    exact (ref_normal.r a0 a1).trans (ref_normal.p (fun q => some (.agg #[.int .i64 (q).1, .int .i64 (q).2] : Value)) a0 a1))

def ref_Has.c {γ : Type} (k : Bool → γ) (a0 : Int) (a1 : Int) (b : Int) : γ := bif decide (a0 ≤ b)
  then k (decide (b ≤ a1))
  else k (false)
def ref_Has (a0 : Int) (a1 : Int) (b : Int) : Bool := ref_Has.c id a0 a1 b
def ref_Has.F : FV := mkF (cP (cA (cP (cI .i64) (cP (cI .i64) cU))) (cP (cI .i64) cU)) (fun _ => true) (fun | ((a0, (a1, ())), (b, ())) => .bool (ref_Has a0 a1 b))
def L_ref_Has : TL := (13, ref_Has.F) :: L_ref_normal
theorem ref_Has.p {γ : Type} (k : Bool → γ) (a0 : Int) (a1 : Int) (b : Int) : ref_Has.c k a0 a1 b = k (ref_Has a0 a1 b) := by
  unfold ref_Has ref_Has.c; (repeat' (first | (apply pc k) | (exact rfl)))
theorem ref_Has.r (a0 : Int) (a1 : Int) (b : Int) : runF P G (tab L_ref_normal) { merge := true } 60 Tryd.f13 [.agg #[.int .i64 a0, .int .i64 a1], .int .i64 b] = ref_Has.c (fun q => some (.bool (q) : Value)) a0 a1 b := by kernel_rfl
theorem ref_Has.t : TabOK P G (tab L_ref_Has) :=
  TabOK_mk C ref_normal.t Tryd.func13 (by kernel_rfl) true 60 (by
    rintro ⟨⟨a0, ⟨a1, ⟨⟩⟩⟩, ⟨b, ⟨⟩⟩⟩ h
    exact (ref_Has.r a0 a1 b).trans (ref_Has.p (fun q => some (.bool (q) : Value)) a0 a1 b))

def ref_Leq.c0 {γ : Type} (k : Bool → γ) (a0 : Int) (a1 : Int) (b0 : Int) (b1 : Int) (t1 : Bool) : γ := bif t1
  then k (true)
  else bif decide (b0 ≤ a0)
   then k (decide (a1 ≤ b1))
   else k (false)
def ref_Leq.c {γ : Type} (k : Bool → γ) (a0 : Int) (a1 : Int) (b0 : Int) (b1 : Int) : γ := let t1 := ref_Empty a0 a1; ref_Leq.c0 k a0 a1 b0 b1 t1
def ref_Leq (a0 : Int) (a1 : Int) (b0 : Int) (b1 : Int) : Bool := ref_Leq.c id a0 a1 b0 b1
def ref_Leq.F : FV := mkF (cP (cA (cP (cI .i64) (cP (cI .i64) cU))) (cP (cA (cP (cI .i64) (cP (cI .i64) cU))) cU)) (fun _ => true) (fun | ((a0, (a1, ())), ((b0, (b1, ())), ())) => .bool (ref_Leq a0 a1 b0 b1))
def L_ref_Leq : TL := (14, ref_Leq.F) :: L_ref_Has
theorem ref_Leq.p0 {γ : Type} (k : Bool → γ) (a0 : Int) (a1 : Int) (b0 : Int) (b1 : Int) (t1 : Bool) : ref_Leq.c0 k a0 a1 b0 b1 t1 = k (ref_Leq.c0 id a0 a1 b0 b1 t1) := by
  unfold ref_Leq.c0; (repeat' (first | (apply pc k) | (exact rfl)))
theorem ref_Leq.p {γ : Type} (k : Bool → γ) (a0 : Int) (a1 : Int) (b0 : Int) (b1 : Int) : ref_Leq.c k a0 a1 b0 b1 = k (ref_Leq a0 a1 b0 b1) :=
  let t1 := ref_Empty a0 a1; ref_Leq.p0 k a0 a1 b0 b1 t1
theorem ref_Leq.r (a0 : Int) (a1 : Int) (b0 : Int) (b1 : Int) : runF P G (tab L_ref_Has) { merge := true } 60 Tryd.f14 [.agg #[.int .i64 a0, .int .i64 a1], .agg #[.int .i64 b0, .int .i64 b1]] = ref_Leq.c (fun q => some (.bool (q) : Value)) a0 a1 b0 b1 := by kernel_rfl
theorem ref_Leq.t : TabOK P G (tab L_ref_Leq) :=
  TabOK_mk C ref_Has.t Tryd.func14 (by kernel_rfl) true 60 (by
    rintro ⟨⟨a0, ⟨a1, ⟨⟩⟩⟩, ⟨⟨b0, ⟨b1, ⟨⟩⟩⟩, ⟨⟩⟩⟩ h
    exact (ref_Leq.r a0 a1 b0 b1).trans (ref_Leq.p (fun q => some (.bool (q) : Value)) a0 a1 b0 b1))

def ref_Join.c0 {γ : Type} (k : Int × Int → γ) (a0 : Int) (a1 : Int) (b0 : Int) (b1 : Int) (t1 : Bool) (t2 : Int × Int) (t3 : Bool) (t4 : Int) (t5 : Int) : γ := bif t1
  then k (t2.fst, t2.snd)
  else bif t3
   then k (a0, a1)
   else k (t4, t5)
def ref_Join.c {γ : Type} (k : Int × Int → γ) (a0 : Int) (a1 : Int) (b0 : Int) (b1 : Int) : γ := let t1 := ref_Empty a0 a1; let t2 := ref_normal b0 b1; let t3 := ref_Empty b0 b1; let t4 := if b0 < a0 then b0 else a0; let t5 := if b1 > a1 then b1 else a1; ref_Join.c0 k a0 a1 b0 b1 t1 t2 t3 t4 t5
def ref_Join (a0 : Int) (a1 : Int) (b0 : Int) (b1 : Int) : Int × Int := ref_Join.c id a0 a1 b0 b1
def ref_Join.F : FV := mkF (cP (cA (cP (cI .i64) (cP (cI .i64) cU))) (cP (cA (cP (cI .i64) (cP (cI .i64) cU))) cU)) (fun _ => true) (fun | ((a0, (a1, ())), ((b0, (b1, ())), ())) => .agg #[.int .i64 (ref_Join a0 a1 b0 b1).1, .int .i64 (ref_Join a0 a1 b0 b1).2])
def L_ref_Join : TL := (17, ref_Join.F) :: L_ref_Leq
theorem ref_Join.p0 {γ : Type} (k : Int × Int → γ) (a0 : Int) (a1 : Int) (b0 : Int) (b1 : Int) (t1 : Bool) (t2 : Int × Int) (t3 : Bool) (t4 : Int) (t5 : Int) : ref_Join.c0 k a0 a1 b0 b1 t1 t2 t3 t4 t5 = k (ref_Join.c0 id a0 a1 b0 b1 t1 t2 t3 t4 t5) := by
  unfold ref_Join.c0; (repeat' (first | (apply pc k) | (exact rfl)))
theorem ref_Join.p {γ : Type} (k : Int × Int → γ) (a0 : Int) (a1 : Int) (b0 : Int) (b1 : Int) : ref_Join.c k a0 a1 b0 b1 = k (ref_Join a0 a1 b0 b1) :=
  let t1 := ref_Empty a0 a1; let t2 := ref_normal b0 b1; let t3 := ref_Empty b0 b1; let t4 := if b0 < a0 then b0 else a0; let t5 := if b1 > a1 then b1 else a1; ref_Join.p0 k a0 a1 b0 b1 t1 t2 t3 t4 t5
theorem ref_Join.r (a0 : Int) (a1 : Int) (b0 : Int) (b1 : Int) : runF P G (tab L_ref_Leq) { merge := true } 60 Tryd.f17 [.agg #[.int .i64 a0, .int .i64 a1], .agg #[.int .i64 b0, .int .i64 b1]] = ref_Join.c (fun q => some (.agg #[.int .i64 (q).1, .int .i64 (q).2] : Value)) a0 a1 b0 b1 := by kernel_rfl
theorem ref_Join.t : TabOK P G (tab L_ref_Join) :=
  TabOK_mk C ref_Leq.t Tryd.func17 (by kernel_rfl) true 60 (by
    rintro ⟨⟨a0, ⟨a1, ⟨⟩⟩⟩, ⟨⟨b0, ⟨b1, ⟨⟩⟩⟩, ⟨⟩⟩⟩ h
    exact (ref_Join.r a0 a1 b0 b1).trans (ref_Join.p (fun q => some (.agg #[.int .i64 (q).1, .int .i64 (q).2] : Value)) a0 a1 b0 b1))

def ref_Meet.c0 {γ : Type} (k : Int × Int → γ) (a0 : Int) (a1 : Int) (b0 : Int) (b1 : Int) (t1 : Int) (t2 : Int) (t3 : Int × Int) : γ := k (t3.fst, t3.snd)
def ref_Meet.c {γ : Type} (k : Int × Int → γ) (a0 : Int) (a1 : Int) (b0 : Int) (b1 : Int) : γ := let t1 := if b0 > a0 then b0 else a0; let t2 := if b1 < a1 then b1 else a1; let t3 := ref_normal t1 t2; ref_Meet.c0 k a0 a1 b0 b1 t1 t2 t3
def ref_Meet (a0 : Int) (a1 : Int) (b0 : Int) (b1 : Int) : Int × Int := ref_Meet.c id a0 a1 b0 b1
def ref_Meet.F : FV := mkF (cP (cA (cP (cI .i64) (cP (cI .i64) cU))) (cP (cA (cP (cI .i64) (cP (cI .i64) cU))) cU)) (fun _ => true) (fun | ((a0, (a1, ())), ((b0, (b1, ())), ())) => .agg #[.int .i64 (ref_Meet a0 a1 b0 b1).1, .int .i64 (ref_Meet a0 a1 b0 b1).2])
def L_ref_Meet : TL := (18, ref_Meet.F) :: L_ref_Join
theorem ref_Meet.p0 {γ : Type} (k : Int × Int → γ) (a0 : Int) (a1 : Int) (b0 : Int) (b1 : Int) (t1 : Int) (t2 : Int) (t3 : Int × Int) : ref_Meet.c0 k a0 a1 b0 b1 t1 t2 t3 = k (ref_Meet.c0 id a0 a1 b0 b1 t1 t2 t3) := by
  unfold ref_Meet.c0; (repeat' (first | (apply pc k) | (exact rfl)))
theorem ref_Meet.p {γ : Type} (k : Int × Int → γ) (a0 : Int) (a1 : Int) (b0 : Int) (b1 : Int) : ref_Meet.c k a0 a1 b0 b1 = k (ref_Meet a0 a1 b0 b1) :=
  let t1 := if b0 > a0 then b0 else a0; let t2 := if b1 < a1 then b1 else a1; let t3 := ref_normal t1 t2; ref_Meet.p0 k a0 a1 b0 b1 t1 t2 t3
theorem ref_Meet.r (a0 : Int) (a1 : Int) (b0 : Int) (b1 : Int) : runF P G (tab L_ref_Join) { merge := true } 60 Tryd.f18 [.agg #[.int .i64 a0, .int .i64 a1], .agg #[.int .i64 b0, .int .i64 b1]] = ref_Meet.c (fun q => some (.agg #[.int .i64 (q).1, .int .i64 (q).2] : Value)) a0 a1 b0 b1 := by kernel_rfl
theorem ref_Meet.t : TabOK P G (tab L_ref_Meet) :=
  TabOK_mk C ref_Join.t Tryd.func18 (by kernel_rfl) true 60 (by
    rintro ⟨⟨a0, ⟨a1, ⟨⟩⟩⟩, ⟨⟨b0, ⟨b1, ⟨⟩⟩⟩, ⟨⟩⟩⟩ h
    exact (ref_Meet.r a0 a1 b0 b1).trans (ref_Meet.p (fun q => some (.agg #[.int .i64 (q).1, .int .i64 (q).2] : Value)) a0 a1 b0 b1))

def law_works.c0 {γ : Type} (k : Bool → γ)  (t1 : Int × Int × Bool) (t2 : Bool) : γ := k (t2)
def law_works.c {γ : Type} (k : Bool → γ)  : γ := let t1 := ival_Add 1 2 10 20; let t2 := ival_Leq t1.fst t1.snd.fst 0 22; law_works.c0 k  t1 t2
def law_works  : Bool := law_works.c id 
def law_works.F : FV := mkF cU (fun _ => true) (fun | () => .bool (law_works))
def L_law_works : TL := (8, law_works.F) :: L_ref_Meet
theorem law_works.p0 {γ : Type} (k : Bool → γ)  (t1 : Int × Int × Bool) (t2 : Bool) : law_works.c0 k  t1 t2 = k (law_works.c0 id  t1 t2) := by
  unfold law_works.c0; (repeat' (first | (apply pc k) | (exact rfl)))
theorem law_works.p {γ : Type} (k : Bool → γ)  : law_works.c k  = k (law_works) :=
  let t1 := ival_Add 1 2 10 20; let t2 := ival_Leq t1.fst t1.snd.fst 0 22; law_works.p0 k  t1 t2
theorem law_works.r  : runF P G (tab L_ref_Meet) { merge := true } 60 Tryd.f8 [] = law_works.c (fun q => some (.bool (q) : Value))  := by kernel_rfl
theorem law_works.t : TabOK P G (tab L_law_works) :=
  TabOK_mk C ref_Meet.t Tryd.func8 (by kernel_rfl) true 60 (by
    rintro ⟨⟩ h
    exact (law_works.r ).trans (law_works.p (fun q => some (.bool (q) : Value)) ))

end Go.Proofs.YtbbplkdjcgdaaaaDoor.V
