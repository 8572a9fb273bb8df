/- What the functions of this seat compute, told by evaluation of their code. Conditions: none. -/
import Derived.Test.YtonpbbhlmapbdaaGreatDoorE1
set_option linter.unusedVariables false
set_option linter.unusedSimpArgs false
namespace Go.Proofs.YtonpbbhlmapbdaaGreatDoor.V
open Go Go.Wk
noncomputable section
def A.ival_none.c {γ : Type} (k : Bool → γ) (a0 : Int) (a1 : Int) : γ := k (decide (a0 > a1))
def A.ival_none (a0 : Int) (a1 : Int) : Bool := A.ival_none.c id a0 a1
def A.ival_none.F : FV := mkF (cP (cA (cP (cI .i64) (cP (cI .i64) cU))) cU) (fun _ => true) (fun | ((a0, (a1, ())), ()) => .bool (A.ival_none a0 a1))
def L_A.ival_none : TL := (137, A.ival_none.F) :: L_bits_TrailingZeros64
theorem A.ival_none.p {γ : Type} (k : Bool → γ) (a0 : Int) (a1 : Int) : A.ival_none.c k a0 a1 = k (A.ival_none a0 a1) := by
  unfold A.ival_none A.ival_none.c; (repeat' (first | (apply pc k) | (exact rfl)))
theorem A.ival_none.r (a0 : Int) (a1 : Int) : runF P G (tab L_bits_TrailingZeros64) { merge := true } 60 Tryz.f137 [.agg #[.int .i64 a0, .int .i64 a1]] = A.ival_none.c (fun q => some (.bool (q) : Value)) a0 a1 := by kernel_rfl
theorem A.ival_none.t : TabOK P G (tab L_A.ival_none) :=
  TabOK_mk C bits_TrailingZeros64.t Tryz.func137 (by kernel_rfl) true 60 (by
    rintro ⟨⟨a0, ⟨a1, ⟨⟩⟩⟩, ⟨⟩⟩ h
    exact (A.ival_none.r a0 a1).trans (A.ival_none.p (fun q => some (.bool (q) : Value)) a0 a1))
def A.ival_one.c {γ : Type} (k : Bool → γ) (a0 : Int) (a1 : Int) : γ := k (a0 == a1)
def A.ival_one (a0 : Int) (a1 : Int) : Bool := A.ival_one.c id a0 a1
def A.ival_one.F : FV := mkF (cP (cA (cP (cI .i64) (cP (cI .i64) cU))) cU) (fun _ => true) (fun | ((a0, (a1, ())), ()) => .bool (A.ival_one a0 a1))
def L_A.ival_one : TL := (213, A.ival_one.F) :: L_A.ival_none
theorem A.ival_one.p {γ : Type} (k : Bool → γ) (a0 : Int) (a1 : Int) : A.ival_one.c k a0 a1 = k (A.ival_one a0 a1) := by
  unfold A.ival_one A.ival_one.c; (repeat' (first | (apply pc k) | (exact rfl)))
theorem A.ival_one.r (a0 : Int) (a1 : Int) : runF P G (tab L_A.ival_none) { merge := true } 60 Tryz.f213 [.agg #[.int .i64 a0, .int .i64 a1]] = A.ival_one.c (fun q => some (.bool (q) : Value)) a0 a1 := by kernel_rfl
theorem A.ival_one.t : TabOK P G (tab L_A.ival_one) :=
  TabOK_mk C A.ival_none.t Tryz.func213 (by kernel_rfl) true 60 (by
    rintro ⟨⟨a0, ⟨a1, ⟨⟩⟩⟩, ⟨⟩⟩ h
    exact (A.ival_one.r a0 a1).trans (A.ival_one.p (fun q => some (.bool (q) : Value)) a0 a1))
def A.ival_Has.c {γ : Type} (k : Bool → γ) (a0 : Int) (a1 : Int) (b : Int) : γ := bif decide (a0 ≤ b)
  then k (decide (b ≤ a1))
  else k (false)
def A.ival_Has (a0 : Int) (a1 : Int) (b : Int) : Bool := A.ival_Has.c id a0 a1 b
def A.ival_Has.F : FV := mkF (cP (cA (cP (cI .i64) (cP (cI .i64) cU))) (cP (cI .i64) cU)) (fun _ => true) (fun | ((a0, (a1, ())), (b, ())) => .bool (A.ival_Has a0 a1 b))
def L_A.ival_Has : TL := (65, A.ival_Has.F) :: L_A.ival_one
theorem A.ival_Has.p {γ : Type} (k : Bool → γ) (a0 : Int) (a1 : Int) (b : Int) : A.ival_Has.c k a0 a1 b = k (A.ival_Has a0 a1 b) := by
  unfold A.ival_Has A.ival_Has.c; (repeat' (first | (apply pc k) | (exact rfl)))
theorem A.ival_Has.r (a0 : Int) (a1 : Int) (b : Int) : runF P G (tab L_A.ival_one) { merge := true } 60 Tryz.f65 [.agg #[.int .i64 a0, .int .i64 a1], .int .i64 b] = A.ival_Has.c (fun q => some (.bool (q) : Value)) a0 a1 b := by kernel_rfl
theorem A.ival_Has.t : TabOK P G (tab L_A.ival_Has) :=
  TabOK_mk C A.ival_one.t Tryz.func65 (by kernel_rfl) true 60 (by
    rintro ⟨⟨a0, ⟨a1, ⟨⟩⟩⟩, ⟨b, ⟨⟩⟩⟩ h
    exact (A.ival_Has.r a0 a1 b).trans (A.ival_Has.p (fun q => some (.bool (q) : Value)) a0 a1 b))
def A.ival_Leq.c0 {γ : Type} (k : Bool → γ) (a0 : Int) (a1 : Int) (b0 : Int) (b1 : Int) (t1 : Bool) : γ := bif t1
  then k (true)
  else bif decide (b0 ≤ a0)
   then k (decide (a1 ≤ b1))
   else k (false)
def A.ival_Leq.c {γ : Type} (k : Bool → γ) (a0 : Int) (a1 : Int) (b0 : Int) (b1 : Int) : γ := let t1 := A.ival_none a0 a1; A.ival_Leq.c0 k a0 a1 b0 b1 t1
def A.ival_Leq (a0 : Int) (a1 : Int) (b0 : Int) (b1 : Int) : Bool := A.ival_Leq.c id a0 a1 b0 b1
def A.ival_Leq.F : FV := mkF (cP (cA (cP (cI .i64) (cP (cI .i64) cU))) (cP (cA (cP (cI .i64) (cP (cI .i64) cU))) cU)) (fun _ => true) (fun | ((a0, (a1, ())), ((b0, (b1, ())), ())) => .bool (A.ival_Leq a0 a1 b0 b1))
def L_A.ival_Leq : TL := (69, A.ival_Leq.F) :: L_A.ival_Has
theorem A.ival_Leq.p0 {γ : Type} (k : Bool → γ) (a0 : Int) (a1 : Int) (b0 : Int) (b1 : Int) (t1 : Bool) : A.ival_Leq.c0 k a0 a1 b0 b1 t1 = k (A.ival_Leq.c0 id a0 a1 b0 b1 t1) := by
  unfold A.ival_Leq.c0; (repeat' (first | (apply pc k) | (exact rfl)))
theorem A.ival_Leq.p {γ : Type} (k : Bool → γ) (a0 : Int) (a1 : Int) (b0 : Int) (b1 : Int) : A.ival_Leq.c k a0 a1 b0 b1 = k (A.ival_Leq a0 a1 b0 b1) :=
  let t1 := A.ival_none a0 a1; A.ival_Leq.p0 k a0 a1 b0 b1 t1
theorem A.ival_Leq.r (a0 : Int) (a1 : Int) (b0 : Int) (b1 : Int) : runF P G (tab L_A.ival_Has) { merge := true } 60 Tryz.f69 [.agg #[.int .i64 a0, .int .i64 a1], .agg #[.int .i64 b0, .int .i64 b1]] = A.ival_Leq.c (fun q => some (.bool (q) : Value)) a0 a1 b0 b1 := by kernel_rfl
theorem A.ival_Leq.t : TabOK P G (tab L_A.ival_Leq) :=
  TabOK_mk C A.ival_Has.t Tryz.func69 (by kernel_rfl) true 60 (by
    rintro ⟨⟨a0, ⟨a1, ⟨⟩⟩⟩, ⟨⟨b0, ⟨b1, ⟨⟩⟩⟩, ⟨⟩⟩⟩ h
    exact (A.ival_Leq.r a0 a1 b0 b1).trans (A.ival_Leq.p (fun q => some (.bool (q) : Value)) a0 a1 b0 b1))
def A.ival_Join.c0 {γ : Type} (k : Int × Int → γ) (a0 : Int) (a1 : Int) (b0 : Int) (b1 : Int) (t1 : Bool) (t2 : Bool) (t3 : Int) (t4 : Int) : γ := bif t1
  then bif t2
   then k (1, 0)
   else bif t1
    then k (b0, b1)
    else bif t2
     then k (a0, a1)
     else k (t3, t4)
  else bif t1
   then k (b0, b1)
   else bif t2
    then k (a0, a1)
    else k (t3, t4)
def A.ival_Join.c {γ : Type} (k : Int × Int → γ) (a0 : Int) (a1 : Int) (b0 : Int) (b1 : Int) : γ := let t1 := A.ival_none a0 a1; let t2 := A.ival_none b0 b1; let t3 := if b0 < a0 then b0 else a0; let t4 := if b1 > a1 then b1 else a1; A.ival_Join.c0 k a0 a1 b0 b1 t1 t2 t3 t4
def A.ival_Join (a0 : Int) (a1 : Int) (b0 : Int) (b1 : Int) : Int × Int := A.ival_Join.c id a0 a1 b0 b1
def A.ival_Join.F : FV := mkF (cP (cA (cP (cI .i64) (cP (cI .i64) cU))) (cP (cA (cP (cI .i64) (cP (cI .i64) cU))) cU)) (fun _ => true) (fun | ((a0, (a1, ())), ((b0, (b1, ())), ())) => .agg #[.int .i64 (A.ival_Join a0 a1 b0 b1).1, .int .i64 (A.ival_Join a0 a1 b0 b1).2])
def L_A.ival_Join : TL := (73, A.ival_Join.F) :: L_A.ival_Leq
theorem A.ival_Join.p0 {γ : Type} (k : Int × Int → γ) (a0 : Int) (a1 : Int) (b0 : Int) (b1 : Int) (t1 : Bool) (t2 : Bool) (t3 : Int) (t4 : Int) : A.ival_Join.c0 k a0 a1 b0 b1 t1 t2 t3 t4 = k (A.ival_Join.c0 id a0 a1 b0 b1 t1 t2 t3 t4) := by
  unfold A.ival_Join.c0; (repeat' (first | (apply pc k) | (exact rfl)))
theorem A.ival_Join.p {γ : Type} (k : Int × Int → γ) (a0 : Int) (a1 : Int) (b0 : Int) (b1 : Int) : A.ival_Join.c k a0 a1 b0 b1 = k (A.ival_Join a0 a1 b0 b1) :=
  let t1 := A.ival_none a0 a1; let t2 := A.ival_none b0 b1; let t3 := if b0 < a0 then b0 else a0; let t4 := if b1 > a1 then b1 else a1; A.ival_Join.p0 k a0 a1 b0 b1 t1 t2 t3 t4
theorem A.ival_Join.r (a0 : Int) (a1 : Int) (b0 : Int) (b1 : Int) : runF P G (tab L_A.ival_Leq) { merge := true } 60 Tryz.f73 [.agg #[.int .i64 a0, .int .i64 a1], .agg #[.int .i64 b0, .int .i64 b1]] = A.ival_Join.c (fun q => some (.agg #[.int .i64 (q).1, .int .i64 (q).2] : Value)) a0 a1 b0 b1 := by kernel_rfl
theorem A.ival_Join.t : TabOK P G (tab L_A.ival_Join) :=
  TabOK_mk C A.ival_Leq.t Tryz.func73 (by kernel_rfl) true 60 (by
    rintro ⟨⟨a0, ⟨a1, ⟨⟩⟩⟩, ⟨⟨b0, ⟨b1, ⟨⟩⟩⟩, ⟨⟩⟩⟩ h
    exact (A.ival_Join.r a0 a1 b0 b1).trans (A.ival_Join.p (fun q => some (.agg #[.int .i64 (q).1, .int .i64 (q).2] : Value)) a0 a1 b0 b1))
def A.ival_Meet.c0 {γ : Type} (k : Int × Int → γ) (a0 : Int) (a1 : Int) (b0 : Int) (b1 : Int) (t1 : Bool) (t2 : Bool) (t3 : Int) (t4 : Int) (t5 : Bool) : γ := bif t1
  then k (1, 0)
  else bif t2
   then k (1, 0)
   else bif t5
    then k (1, 0)
    else k (t3, t4)
def A.ival_Meet.c {γ : Type} (k : Int × Int → γ) (a0 : Int) (a1 : Int) (b0 : Int) (b1 : Int) : γ := let t1 := A.ival_none a0 a1; let t2 := A.ival_none b0 b1; let t3 := if b0 > a0 then b0 else a0; let t4 := if b1 < a1 then b1 else a1; let t5 := A.ival_none t3 t4; A.ival_Meet.c0 k a0 a1 b0 b1 t1 t2 t3 t4 t5
def A.ival_Meet (a0 : Int) (a1 : Int) (b0 : Int) (b1 : Int) : Int × Int := A.ival_Meet.c id a0 a1 b0 b1
def A.ival_Meet.F : FV := mkF (cP (cA (cP (cI .i64) (cP (cI .i64) cU))) (cP (cA (cP (cI .i64) (cP (cI .i64) cU))) cU)) (fun _ => true) (fun | ((a0, (a1, ())), ((b0, (b1, ())), ())) => .agg #[.int .i64 (A.ival_Meet a0 a1 b0 b1).1, .int .i64 (A.ival_Meet a0 a1 b0 b1).2])
def L_A.ival_Meet : TL := (78, A.ival_Meet.F) :: L_A.ival_Join
theorem A.ival_Meet.p0 {γ : Type} (k : Int × Int → γ) (a0 : Int) (a1 : Int) (b0 : Int) (b1 : Int) (t1 : Bool) (t2 : Bool) (t3 : Int) (t4 : Int) (t5 : Bool) : A.ival_Meet.c0 k a0 a1 b0 b1 t1 t2 t3 t4 t5 = k (A.ival_Meet.c0 id a0 a1 b0 b1 t1 t2 t3 t4 t5) := by
  unfold A.ival_Meet.c0; (repeat' (first | (apply pc k) | (exact rfl)))
theorem A.ival_Meet.p {γ : Type} (k : Int × Int → γ) (a0 : Int) (a1 : Int) (b0 : Int) (b1 : Int) : A.ival_Meet.c k a0 a1 b0 b1 = k (A.ival_Meet a0 a1 b0 b1) :=
  let t1 := A.ival_none a0 a1; let t2 := A.ival_none b0 b1; let t3 := if b0 > a0 then b0 else a0; let t4 := if b1 < a1 then b1 else a1; let t5 := A.ival_none t3 t4; A.ival_Meet.p0 k a0 a1 b0 b1 t1 t2 t3 t4 t5
theorem A.ival_Meet.r (a0 : Int) (a1 : Int) (b0 : Int) (b1 : Int) : runF P G (tab L_A.ival_Join) { merge := true } 60 Tryz.f78 [.agg #[.int .i64 a0, .int .i64 a1], .agg #[.int .i64 b0, .int .i64 b1]] = A.ival_Meet.c (fun q => some (.agg #[.int .i64 (q).1, .int .i64 (q).2] : Value)) a0 a1 b0 b1 := by kernel_rfl
theorem A.ival_Meet.t : TabOK P G (tab L_A.ival_Meet) :=
  TabOK_mk C A.ival_Join.t Tryz.func78 (by kernel_rfl) true 60 (by
    rintro ⟨⟨a0, ⟨a1, ⟨⟩⟩⟩, ⟨⟨b0, ⟨b1, ⟨⟩⟩⟩, ⟨⟩⟩⟩ h
    exact (A.ival_Meet.r a0 a1 b0 b1).trans (A.ival_Meet.p (fun q => some (.agg #[.int .i64 (q).1, .int .i64 (q).2] : Value)) a0 a1 b0 b1))
def word_Wide.c0 {γ : Type} (k : Int × Int → γ) (a : Int) (b : Int) (t1 : Int) (t2 : Int) (t3 : Int × Int) (t4 : Int) (t5 : Int) (t6 : Int) (t7 : Int) (t8 : Int) : γ := k (t8, t3.snd)
def word_Wide.c {γ : Type} (k : Int × Int → γ) (a : Int) (b : Int) : γ := let t1 := IntKind.u64.wrap a; let t2 := IntKind.u64.wrap b; let t3 := bits_Mul64 t1 t2; let t4 := IntKind.u64.wrap (t3.fst - t2); let t5 := bif decide (a < 0) then t4 else t3.fst; let t6 := IntKind.u64.wrap (t5 - t1); let t7 := bif decide (b < 0) then t6 else t5; let t8 := IntKind.i64.wrap t7; word_Wide.c0 k a b t1 t2 t3 t4 t5 t6 t7 t8
def word_Wide (a : Int) (b : Int) : Int × Int := word_Wide.c id a b
def word_Wide.F : FV := mkF (cP (cI .i64) (cP (cI .i64) cU)) (fun _ => true) (fun | (a, (b, ())) => .tuple #[.int .i64 (word_Wide a b).1, .int .u64 (word_Wide a b).2])
def L_word_Wide : TL := (211, word_Wide.F) :: L_A.ival_Meet
theorem word_Wide.p0 {γ : Type} (k : Int × Int → γ) (a : Int) (b : Int) (t1 : Int) (t2 : Int) (t3 : Int × Int) (t4 : Int) (t5 : Int) (t6 : Int) (t7 : Int) (t8 : Int) : word_Wide.c0 k a b t1 t2 t3 t4 t5 t6 t7 t8 = k (word_Wide.c0 id a b t1 t2 t3 t4 t5 t6 t7 t8) := by
  unfold word_Wide.c0; (repeat' (first | (apply pc k) | (exact rfl)))
theorem word_Wide.p {γ : Type} (k : Int × Int → γ) (a : Int) (b : Int) : word_Wide.c k a b = k (word_Wide a b) :=
  let t1 := IntKind.u64.wrap a; let t2 := IntKind.u64.wrap b; let t3 := bits_Mul64 t1 t2; let t4 := IntKind.u64.wrap (t3.fst - t2); let t5 := bif decide (a < 0) then t4 else t3.fst; let t6 := IntKind.u64.wrap (t5 - t1); let t7 := bif decide (b < 0) then t6 else t5; let t8 := IntKind.i64.wrap t7; word_Wide.p0 k a b t1 t2 t3 t4 t5 t6 t7 t8
theorem word_Wide.r (a : Int) (b : Int) : runF P G (tab L_A.ival_Meet) { merge := true } 60 Tryz.f211 [.int .i64 a, .int .i64 b] = word_Wide.c (fun q => some (.tuple #[.int .i64 (q).1, .int .u64 (q).2] : Value)) a b := by kernel_rfl
theorem word_Wide.t : TabOK P G (tab L_word_Wide) :=
  TabOK_mk C A.ival_Meet.t Tryz.func211 (by kernel_rfl) true 60 (by
    rintro ⟨a, ⟨b, ⟨⟩⟩⟩ h
    exact (word_Wide.r a b).trans (word_Wide.p (fun q => some (.tuple #[.int .i64 (q).1, .int .u64 (q).2] : Value)) a b))
def A.ival_shifted.c {γ : Type} (k : Int × Int × Bool → γ) (a : Int) (b : Int) (c : Int) (d : Int) : γ := bif c != d
  then k (-9223372036854775808, 9223372036854775807, false)
  else k (a, b, c == 0)
def A.ival_shifted (a : Int) (b : Int) (c : Int) (d : Int) : Int × Int × Bool := A.ival_shifted.c id a b c d
def A.ival_shifted.F : FV := mkF (cP (cI .i64) (cP (cI .i64) (cP (cI .i64) (cP (cI .i64) cU)))) (fun _ => true) (fun | (a, (b, (c, (d, ())))) => .tuple #[.agg #[.int .i64 (A.ival_shifted a b c d).1, .int .i64 (A.ival_shifted a b c d).2.1], .bool (A.ival_shifted a b c d).2.2])
def L_A.ival_shifted : TL := (201, A.ival_shifted.F) :: L_word_Wide
theorem A.ival_shifted.p {γ : Type} (k : Int × Int × Bool → γ) (a : Int) (b : Int) (c : Int) (d : Int) : A.ival_shifted.c k a b c d = k (A.ival_shifted a b c d) := by
  unfold A.ival_shifted A.ival_shifted.c; (repeat' (first | (apply pc k) | (exact rfl)))
theorem A.ival_shifted.r (a : Int) (b : Int) (c : Int) (d : Int) : runF P G (tab L_word_Wide) { merge := true } 60 Tryz.f201 [.int .i64 a, .int .i64 b, .int .i64 c, .int .i64 d] = A.ival_shifted.c (fun q => some (.tuple #[.agg #[.int .i64 (q).1, .int .i64 (q).2.1], .bool (q).2.2] : Value)) a b c d := by kernel_rfl
theorem A.ival_shifted.t : TabOK P G (tab L_A.ival_shifted) :=
  TabOK_mk C word_Wide.t Tryz.func201 (by kernel_rfl) true 60 (by
    rintro ⟨a, ⟨b, ⟨c, ⟨d, ⟨⟩⟩⟩⟩⟩ h
    exact (A.ival_shifted.r a b c d).trans (A.ival_shifted.p (fun q => some (.tuple #[.agg #[.int .i64 (q).1, .int .i64 (q).2.1], .bool (q).2.2] : Value)) a b c d))
def A.ival_beyond.c0 {γ : Type} (k : Int → γ) (a : Int) (b : Int) (t1 : Int) : γ := bif decide (a ≥ 0)
  then bif decide (b ≥ 0)
   then bif decide (t1 < 0)
    then k (1)
    else bif decide (a < 0)
     then bif decide (b < 0)
      then bif decide (t1 ≥ 0)
       then k (-1)
       else k (0)
      else k (0)
     else k (0)
   else bif decide (a < 0)
    then bif decide (b < 0)
     then bif decide (t1 ≥ 0)
      then k (-1)
      else k (0)
     else k (0)
    else k (0)
  else bif decide (a < 0)
   then bif decide (b < 0)
    then bif decide (t1 ≥ 0)
     then k (-1)
     else k (0)
    else k (0)
   else k (0)
def A.ival_beyond.c {γ : Type} (k : Int → γ) (a : Int) (b : Int) : γ := let t1 := word_Add a b; A.ival_beyond.c0 k a b t1
def A.ival_beyond (a : Int) (b : Int) : Int := A.ival_beyond.c id a b
def A.ival_beyond.F : FV := mkF (cP (cI .i64) (cP (cI .i64) cU)) (fun _ => true) (fun | (a, (b, ())) => .int .i64 (A.ival_beyond a b))
def L_A.ival_beyond : TL := (203, A.ival_beyond.F) :: L_A.ival_shifted
theorem A.ival_beyond.p0 {γ : Type} (k : Int → γ) (a : Int) (b : Int) (t1 : Int) : A.ival_beyond.c0 k a b t1 = k (A.ival_beyond.c0 id a b t1) := by
  unfold A.ival_beyond.c0; (repeat' (first | (apply pc k) | (exact rfl)))
theorem A.ival_beyond.p {γ : Type} (k : Int → γ) (a : Int) (b : Int) : A.ival_beyond.c k a b = k (A.ival_beyond a b) :=
  let t1 := word_Add a b; A.ival_beyond.p0 k a b t1
theorem A.ival_beyond.r (a : Int) (b : Int) : runF P G (tab L_A.ival_shifted) { merge := true } 60 Tryz.f203 [.int .i64 a, .int .i64 b] = A.ival_beyond.c (fun q => some (.int .i64 (q) : Value)) a b := by kernel_rfl
theorem A.ival_beyond.t : TabOK P G (tab L_A.ival_beyond) :=
  TabOK_mk C A.ival_shifted.t Tryz.func203 (by kernel_rfl) true 60 (by
    rintro ⟨a, ⟨b, ⟨⟩⟩⟩ h
    exact (A.ival_beyond.r a b).trans (A.ival_beyond.p (fun q => some (.int .i64 (q) : Value)) a b))
def A.ival_short.c0 {γ : Type} (k : Int → γ) (a : Int) (b : Int) (t1 : Int) : γ := bif decide (a ≥ 0)
  then bif decide (b < 0)
   then bif decide (t1 < 0)
    then k (1)
    else bif decide (a < 0)
     then bif decide (b ≥ 0)
      then bif decide (t1 ≥ 0)
       then k (-1)
       else k (0)
      else k (0)
     else k (0)
   else bif decide (a < 0)
    then bif decide (b ≥ 0)
     then bif decide (t1 ≥ 0)
      then k (-1)
      else k (0)
     else k (0)
    else k (0)
  else bif decide (a < 0)
   then bif decide (b ≥ 0)
    then bif decide (t1 ≥ 0)
     then k (-1)
     else k (0)
    else k (0)
   else k (0)
def A.ival_short.c {γ : Type} (k : Int → γ) (a : Int) (b : Int) : γ := let t1 := word_Sub a b; A.ival_short.c0 k a b t1
def A.ival_short (a : Int) (b : Int) : Int := A.ival_short.c id a b
def A.ival_short.F : FV := mkF (cP (cI .i64) (cP (cI .i64) cU)) (fun _ => true) (fun | (a, (b, ())) => .int .i64 (A.ival_short a b))
def L_A.ival_short : TL := (207, A.ival_short.F) :: L_A.ival_beyond
theorem A.ival_short.p0 {γ : Type} (k : Int → γ) (a : Int) (b : Int) (t1 : Int) : A.ival_short.c0 k a b t1 = k (A.ival_short.c0 id a b t1) := by
  unfold A.ival_short.c0; (repeat' (first | (apply pc k) | (exact rfl)))
theorem A.ival_short.p {γ : Type} (k : Int → γ) (a : Int) (b : Int) : A.ival_short.c k a b = k (A.ival_short a b) :=
  let t1 := word_Sub a b; A.ival_short.p0 k a b t1
theorem A.ival_short.r (a : Int) (b : Int) : runF P G (tab L_A.ival_beyond) { merge := true } 60 Tryz.f207 [.int .i64 a, .int .i64 b] = A.ival_short.c (fun q => some (.int .i64 (q) : Value)) a b := by kernel_rfl
theorem A.ival_short.t : TabOK P G (tab L_A.ival_short) :=
  TabOK_mk C A.ival_beyond.t Tryz.func207 (by kernel_rfl) true 60 (by
    rintro ⟨a, ⟨b, ⟨⟩⟩⟩ h
    exact (A.ival_short.r a b).trans (A.ival_short.p (fun q => some (.int .i64 (q) : Value)) a b))
def A.ival_Add.c0 {γ : Type} (k : Int × Int × Bool → γ) (a0 : Int) (a1 : Int) (b0 : Int) (b1 : Int) (t1 : Bool) (t2 : Bool) (t3 : Int) (t4 : Int) (t5 : Int) (t6 : Int) (t7 : Int × Int × Bool) : γ := bif t1
  then k (1, 0, true)
  else bif t2
   then k (1, 0, true)
   else k (t7.fst, t7.snd.fst, t7.snd.snd)
def A.ival_Add.c {γ : Type} (k : Int × Int × Bool → γ) (a0 : Int) (a1 : Int) (b0 : Int) (b1 : Int) : γ := let t1 := A.ival_none a0 a1; let t2 := A.ival_none b0 b1; let t3 := word_Add a0 b0; let t4 := word_Add a1 b1; let t5 := A.ival_beyond a0 b0; let t6 := A.ival_beyond a1 b1; let t7 := A.ival_shifted t3 t4 t5 t6; A.ival_Add.c0 k a0 a1 b0 b1 t1 t2 t3 t4 t5 t6 t7
def A.ival_Add (a0 : Int) (a1 : Int) (b0 : Int) (b1 : Int) : Int × Int × Bool := A.ival_Add.c id a0 a1 b0 b1
def A.ival_Add.F : FV := mkF (cP (cA (cP (cI .i64) (cP (cI .i64) cU))) (cP (cA (cP (cI .i64) (cP (cI .i64) cU))) cU)) (fun _ => true) (fun | ((a0, (a1, ())), ((b0, (b1, ())), ())) => .tuple #[.agg #[.int .i64 (A.ival_Add a0 a1 b0 b1).1, .int .i64 (A.ival_Add a0 a1 b0 b1).2.1], .bool (A.ival_Add a0 a1 b0 b1).2.2])
def L_A.ival_Add : TL := (118, A.ival_Add.F) :: L_A.ival_short
theorem A.ival_Add.p0 {γ : Type} (k : Int × Int × Bool → γ) (a0 : Int) (a1 : Int) (b0 : Int) (b1 : Int) (t1 : Bool) (t2 : Bool) (t3 : Int) (t4 : Int) (t5 : Int) (t6 : Int) (t7 : Int × Int × Bool) : A.ival_Add.c0 k a0 a1 b0 b1 t1 t2 t3 t4 t5 t6 t7 = k (A.ival_Add.c0 id a0 a1 b0 b1 t1 t2 t3 t4 t5 t6 t7) := by
  unfold A.ival_Add.c0; (repeat' (first | (apply pc k) | (exact rfl)))
theorem A.ival_Add.p {γ : Type} (k : Int × Int × Bool → γ) (a0 : Int) (a1 : Int) (b0 : Int) (b1 : Int) : A.ival_Add.c k a0 a1 b0 b1 = k (A.ival_Add a0 a1 b0 b1) :=
  let t1 := A.ival_none a0 a1; let t2 := A.ival_none b0 b1; let t3 := word_Add a0 b0; let t4 := word_Add a1 b1; let t5 := A.ival_beyond a0 b0; let t6 := A.ival_beyond a1 b1; let t7 := A.ival_shifted t3 t4 t5 t6; A.ival_Add.p0 k a0 a1 b0 b1 t1 t2 t3 t4 t5 t6 t7
theorem A.ival_Add.r (a0 : Int) (a1 : Int) (b0 : Int) (b1 : Int) : runF P G (tab L_A.ival_short) { merge := true } 60 Tryz.f118 [.agg #[.int .i64 a0, .int .i64 a1], .agg #[.int .i64 b0, .int .i64 b1]] = A.ival_Add.c (fun q => some (.tuple #[.agg #[.int .i64 (q).1, .int .i64 (q).2.1], .bool (q).2.2] : Value)) a0 a1 b0 b1 := by kernel_rfl
theorem A.ival_Add.t : TabOK P G (tab L_A.ival_Add) :=
  TabOK_mk C A.ival_short.t Tryz.func118 (by kernel_rfl) true 60 (by
    rintro ⟨⟨a0, ⟨a1, ⟨⟩⟩⟩, ⟨⟨b0, ⟨b1, ⟨⟩⟩⟩, ⟨⟩⟩⟩ h
    exact (A.ival_Add.r a0 a1 b0 b1).trans (A.ival_Add.p (fun q => some (.tuple #[.agg #[.int .i64 (q).1, .int .i64 (q).2.1], .bool (q).2.2] : Value)) a0 a1 b0 b1))
def A.ival_Sub.c0 {γ : Type} (k : Int × Int × Bool → γ) (a0 : Int) (a1 : Int) (b0 : Int) (b1 : Int) (t1 : Bool) (t2 : Bool) (t3 : Int) (t4 : Int) (t5 : Int) (t6 : Int) (t7 : Int × Int × Bool) : γ := bif t1
  then k (1, 0, true)
  else bif t2
   then k (1, 0, true)
   else k (t7.fst, t7.snd.fst, t7.snd.snd)
def A.ival_Sub.c {γ : Type} (k : Int × Int × Bool → γ) (a0 : Int) (a1 : Int) (b0 : Int) (b1 : Int) : γ := let t1 := A.ival_none a0 a1; let t2 := A.ival_none b0 b1; let t3 := word_Sub a0 b1; let t4 := word_Sub a1 b0; let t5 := A.ival_short a0 b1; let t6 := A.ival_short a1 b0; let t7 := A.ival_shifted t3 t4 t5 t6; A.ival_Sub.c0 k a0 a1 b0 b1 t1 t2 t3 t4 t5 t6 t7
def A.ival_Sub (a0 : Int) (a1 : Int) (b0 : Int) (b1 : Int) : Int × Int × Bool := A.ival_Sub.c id a0 a1 b0 b1
def A.ival_Sub.F : FV := mkF (cP (cA (cP (cI .i64) (cP (cI .i64) cU))) (cP (cA (cP (cI .i64) (cP (cI .i64) cU))) cU)) (fun _ => true) (fun | ((a0, (a1, ())), ((b0, (b1, ())), ())) => .tuple #[.agg #[.int .i64 (A.ival_Sub a0 a1 b0 b1).1, .int .i64 (A.ival_Sub a0 a1 b0 b1).2.1], .bool (A.ival_Sub a0 a1 b0 b1).2.2])
def L_A.ival_Sub : TL := (120, A.ival_Sub.F) :: L_A.ival_Add
theorem A.ival_Sub.p0 {γ : Type} (k : Int × Int × Bool → γ) (a0 : Int) (a1 : Int) (b0 : Int) (b1 : Int) (t1 : Bool) (t2 : Bool) (t3 : Int) (t4 : Int) (t5 : Int) (t6 : Int) (t7 : Int × Int × Bool) : A.ival_Sub.c0 k a0 a1 b0 b1 t1 t2 t3 t4 t5 t6 t7 = k (A.ival_Sub.c0 id a0 a1 b0 b1 t1 t2 t3 t4 t5 t6 t7) := by
  unfold A.ival_Sub.c0; (repeat' (first | (apply pc k) | (exact rfl)))
theorem A.ival_Sub.p {γ : Type} (k : Int × Int × Bool → γ) (a0 : Int) (a1 : Int) (b0 : Int) (b1 : Int) : A.ival_Sub.c k a0 a1 b0 b1 = k (A.ival_Sub a0 a1 b0 b1) :=
  let t1 := A.ival_none a0 a1; let t2 := A.ival_none b0 b1; let t3 := word_Sub a0 b1; let t4 := word_Sub a1 b0; let t5 := A.ival_short a0 b1; let t6 := A.ival_short a1 b0; let t7 := A.ival_shifted t3 t4 t5 t6; A.ival_Sub.p0 k a0 a1 b0 b1 t1 t2 t3 t4 t5 t6 t7
theorem A.ival_Sub.r (a0 : Int) (a1 : Int) (b0 : Int) (b1 : Int) : runF P G (tab L_A.ival_Add) { merge := true } 60 Tryz.f120 [.agg #[.int .i64 a0, .int .i64 a1], .agg #[.int .i64 b0, .int .i64 b1]] = A.ival_Sub.c (fun q => some (.tuple #[.agg #[.int .i64 (q).1, .int .i64 (q).2.1], .bool (q).2.2] : Value)) a0 a1 b0 b1 := by kernel_rfl
theorem A.ival_Sub.t : TabOK P G (tab L_A.ival_Sub) :=
  TabOK_mk C A.ival_Add.t Tryz.func120 (by kernel_rfl) true 60 (by
    rintro ⟨⟨a0, ⟨a1, ⟨⟩⟩⟩, ⟨⟨b0, ⟨b1, ⟨⟩⟩⟩, ⟨⟩⟩⟩ h
    exact (A.ival_Sub.r a0 a1 b0 b1).trans (A.ival_Sub.p (fun q => some (.tuple #[.agg #[.int .i64 (q).1, .int .i64 (q).2.1], .bool (q).2.2] : Value)) a0 a1 b0 b1))
def A.ival_Neg.c0 {γ : Type} (k : Int × Int × Bool → γ) (a0 : Int) (a1 : Int) (t1 : Int × Int × Bool) : γ := k (t1.fst, t1.snd.fst, t1.snd.snd)
def A.ival_Neg.c {γ : Type} (k : Int × Int × Bool → γ) (a0 : Int) (a1 : Int) : γ := let t1 := A.ival_Sub 0 0 a0 a1; A.ival_Neg.c0 k a0 a1 t1
def A.ival_Neg (a0 : Int) (a1 : Int) : Int × Int × Bool := A.ival_Neg.c id a0 a1
def A.ival_Neg.F : FV := mkF (cP (cA (cP (cI .i64) (cP (cI .i64) cU))) cU) (fun _ => true) (fun | ((a0, (a1, ())), ()) => .tuple #[.agg #[.int .i64 (A.ival_Neg a0 a1).1, .int .i64 (A.ival_Neg a0 a1).2.1], .bool (A.ival_Neg a0 a1).2.2])
def L_A.ival_Neg : TL := (115, A.ival_Neg.F) :: L_A.ival_Sub
theorem A.ival_Neg.p0 {γ : Type} (k : Int × Int × Bool → γ) (a0 : Int) (a1 : Int) (t1 : Int × Int × Bool) : A.ival_Neg.c0 k a0 a1 t1 = k (A.ival_Neg.c0 id a0 a1 t1) := by
  unfold A.ival_Neg.c0; (repeat' (first | (apply pc k) | (exact rfl)))
theorem A.ival_Neg.p {γ : Type} (k : Int × Int × Bool → γ) (a0 : Int) (a1 : Int) : A.ival_Neg.c k a0 a1 = k (A.ival_Neg a0 a1) :=
  let t1 := A.ival_Sub 0 0 a0 a1; A.ival_Neg.p0 k a0 a1 t1
theorem A.ival_Neg.r (a0 : Int) (a1 : Int) : runF P G (tab L_A.ival_Sub) { merge := true } 60 Tryz.f115 [.agg #[.int .i64 a0, .int .i64 a1]] = A.ival_Neg.c (fun q => some (.tuple #[.agg #[.int .i64 (q).1, .int .i64 (q).2.1], .bool (q).2.2] : Value)) a0 a1 := by kernel_rfl
theorem A.ival_Neg.t : TabOK P G (tab L_A.ival_Neg) :=
  TabOK_mk C A.ival_Sub.t Tryz.func115 (by kernel_rfl) true 60 (by
    rintro ⟨⟨a0, ⟨a1, ⟨⟩⟩⟩, ⟨⟩⟩ h
    exact (A.ival_Neg.r a0 a1).trans (A.ival_Neg.p (fun q => some (.tuple #[.agg #[.int .i64 (q).1, .int .i64 (q).2.1], .bool (q).2.2] : Value)) a0 a1))
def A.ival_distance.c0 {γ : Type} (k : Int → γ) (a : Int) (t1 : Int) (t2 : Int) : γ := bif decide (a < 0)
  then k (t2)
  else k (t1)
def A.ival_distance.c {γ : Type} (k : Int → γ) (a : Int) : γ := let t1 := IntKind.u64.wrap a; let t2 := IntKind.u64.wrap (0 - t1); A.ival_distance.c0 k a t1 t2
def A.ival_distance (a : Int) : Int := A.ival_distance.c id a
def A.ival_distance.F : FV := mkF (cP (cI .i64) cU) (fun _ => true) (fun | (a, ()) => .int .u64 (A.ival_distance a))
def L_A.ival_distance : TL := (224, A.ival_distance.F) :: L_A.ival_Neg
theorem A.ival_distance.p0 {γ : Type} (k : Int → γ) (a : Int) (t1 : Int) (t2 : Int) : A.ival_distance.c0 k a t1 t2 = k (A.ival_distance.c0 id a t1 t2) := by
  unfold A.ival_distance.c0; (repeat' (first | (apply pc k) | (exact rfl)))
theorem A.ival_distance.p {γ : Type} (k : Int → γ) (a : Int) : A.ival_distance.c k a = k (A.ival_distance a) :=
  let t1 := IntKind.u64.wrap a; let t2 := IntKind.u64.wrap (0 - t1); A.ival_distance.p0 k a t1 t2
theorem A.ival_distance.r (a : Int) : runF P G (tab L_A.ival_Neg) { merge := true } 60 Tryz.f224 [.int .i64 a] = A.ival_distance.c (fun q => some (.int .u64 (q) : Value)) a := by kernel_rfl
theorem A.ival_distance.t : TabOK P G (tab L_A.ival_distance) :=
  TabOK_mk C A.ival_Neg.t Tryz.func224 (by kernel_rfl) true 60 (by
    rintro ⟨a, ⟨⟩⟩ h
    exact (A.ival_distance.r a).trans (A.ival_distance.p (fun q => some (.int .u64 (q) : Value)) a))
def A.ival_under.c0 {γ : Type} (k : Int × Int → γ) (a0 : Int) (a1 : Int) (t1 : Int × Int) : γ := k (t1.fst, t1.snd)
def A.ival_under.c {γ : Type} (k : Int × Int → γ) (a0 : Int) (a1 : Int) : γ := let t1 := A.ival_Meet a0 a1 (-9223372036854775808) (-1); A.ival_under.c0 k a0 a1 t1
def A.ival_under (a0 : Int) (a1 : Int) : Int × Int := A.ival_under.c id a0 a1
def A.ival_under.F : FV := mkF (cP (cA (cP (cI .i64) (cP (cI .i64) cU))) cU) (fun _ => true) (fun | ((a0, (a1, ())), ()) => .agg #[.int .i64 (A.ival_under a0 a1).1, .int .i64 (A.ival_under a0 a1).2])
def L_A.ival_under : TL := (221, A.ival_under.F) :: L_A.ival_distance
theorem A.ival_under.p0 {γ : Type} (k : Int × Int → γ) (a0 : Int) (a1 : Int) (t1 : Int × Int) : A.ival_under.c0 k a0 a1 t1 = k (A.ival_under.c0 id a0 a1 t1) := by
  unfold A.ival_under.c0; (repeat' (first | (apply pc k) | (exact rfl)))
theorem A.ival_under.p {γ : Type} (k : Int × Int → γ) (a0 : Int) (a1 : Int) : A.ival_under.c k a0 a1 = k (A.ival_under a0 a1) :=
  let t1 := A.ival_Meet a0 a1 (-9223372036854775808) (-1); A.ival_under.p0 k a0 a1 t1
theorem A.ival_under.r (a0 : Int) (a1 : Int) : runF P G (tab L_A.ival_distance) { merge := true } 60 Tryz.f221 [.agg #[.int .i64 a0, .int .i64 a1]] = A.ival_under.c (fun q => some (.agg #[.int .i64 (q).1, .int .i64 (q).2] : Value)) a0 a1 := by kernel_rfl
theorem A.ival_under.t : TabOK P G (tab L_A.ival_under) :=
  TabOK_mk C A.ival_distance.t Tryz.func221 (by kernel_rfl) true 60 (by
    rintro ⟨⟨a0, ⟨a1, ⟨⟩⟩⟩, ⟨⟩⟩ h
    exact (A.ival_under.r a0 a1).trans (A.ival_under.p (fun q => some (.agg #[.int .i64 (q).1, .int .i64 (q).2] : Value)) a0 a1))
def A.ival_over.c0 {γ : Type} (k : Int × Int → γ) (a0 : Int) (a1 : Int) (t1 : Int × Int) : γ := k (t1.fst, t1.snd)
def A.ival_over.c {γ : Type} (k : Int × Int → γ) (a0 : Int) (a1 : Int) : γ := let t1 := A.ival_Meet a0 a1 1 9223372036854775807; A.ival_over.c0 k a0 a1 t1
def A.ival_over (a0 : Int) (a1 : Int) : Int × Int := A.ival_over.c id a0 a1
def A.ival_over.F : FV := mkF (cP (cA (cP (cI .i64) (cP (cI .i64) cU))) cU) (fun _ => true) (fun | ((a0, (a1, ())), ()) => .agg #[.int .i64 (A.ival_over a0 a1).1, .int .i64 (A.ival_over a0 a1).2])
def L_A.ival_over : TL := (222, A.ival_over.F) :: L_A.ival_under
theorem A.ival_over.p0 {γ : Type} (k : Int × Int → γ) (a0 : Int) (a1 : Int) (t1 : Int × Int) : A.ival_over.c0 k a0 a1 t1 = k (A.ival_over.c0 id a0 a1 t1) := by
  unfold A.ival_over.c0; (repeat' (first | (apply pc k) | (exact rfl)))
theorem A.ival_over.p {γ : Type} (k : Int × Int → γ) (a0 : Int) (a1 : Int) : A.ival_over.c k a0 a1 = k (A.ival_over a0 a1) :=
  let t1 := A.ival_Meet a0 a1 1 9223372036854775807; A.ival_over.p0 k a0 a1 t1
theorem A.ival_over.r (a0 : Int) (a1 : Int) : runF P G (tab L_A.ival_under) { merge := true } 60 Tryz.f222 [.agg #[.int .i64 a0, .int .i64 a1]] = A.ival_over.c (fun q => some (.agg #[.int .i64 (q).1, .int .i64 (q).2] : Value)) a0 a1 := by kernel_rfl
theorem A.ival_over.t : TabOK P G (tab L_A.ival_over) :=
  TabOK_mk C A.ival_under.t Tryz.func222 (by kernel_rfl) true 60 (by
    rintro ⟨⟨a0, ⟨a1, ⟨⟩⟩⟩, ⟨⟩⟩ h
    exact (A.ival_over.r a0 a1).trans (A.ival_over.p (fun q => some (.agg #[.int .i64 (q).1, .int .i64 (q).2] : Value)) a0 a1))
def A.ref_Empty.c {γ : Type} (k : Bool → γ) (a0 : Int) (a1 : Int) : γ := k (decide (a0 > a1))
def A.ref_Empty (a0 : Int) (a1 : Int) : Bool := A.ref_Empty.c id a0 a1
def A.ref_Empty.F : FV := mkF (cP (cA (cP (cI .i64) (cP (cI .i64) cU))) cU) (fun _ => true) (fun | ((a0, (a1, ())), ()) => .bool (A.ref_Empty a0 a1))
def L_A.ref_Empty : TL := (59, A.ref_Empty.F) :: L_A.ival_over
theorem A.ref_Empty.p {γ : Type} (k : Bool → γ) (a0 : Int) (a1 : Int) : A.ref_Empty.c k a0 a1 = k (A.ref_Empty a0 a1) := by
  unfold A.ref_Empty A.ref_Empty.c; (repeat' (first | (apply pc k) | (exact rfl)))
theorem A.ref_Empty.r (a0 : Int) (a1 : Int) : runF P G (tab L_A.ival_over) { merge := true } 60 Tryz.f59 [.agg #[.int .i64 a0, .int .i64 a1]] = A.ref_Empty.c (fun q => some (.bool (q) : Value)) a0 a1 := by kernel_rfl
theorem A.ref_Empty.t : TabOK P G (tab L_A.ref_Empty) :=
  TabOK_mk C A.ival_over.t Tryz.func59 (by kernel_rfl) true 60 (by
    rintro ⟨⟨a0, ⟨a1, ⟨⟩⟩⟩, ⟨⟩⟩ h
    exact (A.ref_Empty.r a0 a1).trans (A.ref_Empty.p (fun q => some (.bool (q) : Value)) a0 a1))
def A.ref_None.c {γ : Type} (k : Int × Int → γ)  : γ := k (1, 0)
def A.ref_None  : Int × Int := A.ref_None.c id
def A.ref_None.F : FV := mkF cU (fun _ => true) (fun | () => .agg #[.int .i64 (A.ref_None).1, .int .i64 (A.ref_None).2])
def L_A.ref_None : TL := (156, A.ref_None.F) :: L_A.ref_Empty
theorem A.ref_None.p {γ : Type} (k : Int × Int → γ)  : A.ref_None.c k  = k (A.ref_None) := by
  unfold A.ref_None A.ref_None.c; (repeat' (first | (apply pc k) | (exact rfl)))
theorem A.ref_None.r  : runF P G (tab L_A.ref_Empty) { merge := true } 60 Tryz.f156 [] = A.ref_None.c (fun q => some (.agg #[.int .i64 (q).1, .int .i64 (q).2] : Value))  := by kernel_rfl
theorem A.ref_None.t : TabOK P G (tab L_A.ref_None) :=
  TabOK_mk C A.ref_Empty.t Tryz.func156 (by kernel_rfl) true 60 (by
    rintro ⟨⟩ h
    exact (A.ref_None.r ).trans (A.ref_None.p (fun q => some (.agg #[.int .i64 (q).1, .int .i64 (q).2] : Value)) ))
def A.ref_normal.c0 {γ : Type} (k : Int × Int → γ) (a0 : Int) (a1 : Int) (t1 : Bool) : γ := bif t1
  then k (A.ref_None.fst, A.ref_None.snd)
  else k (a0, a1)
def A.ref_normal.c {γ : Type} (k : Int × Int → γ) (a0 : Int) (a1 : Int) : γ := let t1 := A.ref_Empty a0 a1; A.ref_normal.c0 k a0 a1 t1
def A.ref_normal (a0 : Int) (a1 : Int) : Int × Int := A.ref_normal.c id a0 a1
def A.ref_normal.F : FV := mkF (cP (cA (cP (cI .i64) (cP (cI .i64) cU))) cU) (fun _ => true) (fun | ((a0, (a1, ())), ()) => .agg #[.int .i64 (A.ref_normal a0 a1).1, .int .i64 (A.ref_normal a0 a1).2])
def L_A.ref_normal : TL := (141, A.ref_normal.F) :: L_A.ref_None
theorem A.ref_normal.p0 {γ : Type} (k : Int × Int → γ) (a0 : Int) (a1 : Int) (t1 : Bool) : A.ref_normal.c0 k a0 a1 t1 = k (A.ref_normal.c0 id a0 a1 t1) := by
  unfold A.ref_normal.c0; (repeat' (first | (apply pc k) | (exact rfl)))
theorem A.ref_normal.p {γ : Type} (k : Int × Int → γ) (a0 : Int) (a1 : Int) : A.ref_normal.c k a0 a1 = k (A.ref_normal a0 a1) :=
  let t1 := A.ref_Empty a0 a1; A.ref_normal.p0 k a0 a1 t1
theorem A.ref_normal.r (a0 : Int) (a1 : Int) : runF P G (tab L_A.ref_None) { merge := true } 60 Tryz.f141 [.agg #[.int .i64 a0, .int .i64 a1]] = A.ref_normal.c (fun q => some (.agg #[.int .i64 (q).1, .int .i64 (q).2] : Value)) a0 a1 := by kernel_rfl
theorem A.ref_normal.t : TabOK P G (tab L_A.ref_normal) :=
  TabOK_mk C A.ref_None.t Tryz.func141 (by kernel_rfl) true 60 (by
    rintro ⟨⟨a0, ⟨a1, ⟨⟩⟩⟩, ⟨⟩⟩ h
    exact (A.ref_normal.r a0 a1).trans (A.ref_normal.p (fun q => some (.agg #[.int .i64 (q).1, .int .i64 (q).2] : Value)) a0 a1))
def A.ref_Has.c {γ : Type} (k : Bool → γ) (a0 : Int) (a1 : Int) (b : Int) : γ := bif decide (a0 ≤ b)
  then k (decide (b ≤ a1))
  else k (false)
def A.ref_Has (a0 : Int) (a1 : Int) (b : Int) : Bool := A.ref_Has.c id a0 a1 b
def A.ref_Has.F : FV := mkF (cP (cA (cP (cI .i64) (cP (cI .i64) cU))) (cP (cI .i64) cU)) (fun _ => true) (fun | ((a0, (a1, ())), (b, ())) => .bool (A.ref_Has a0 a1 b))
def L_A.ref_Has : TL := (67, A.ref_Has.F) :: L_A.ref_normal
theorem A.ref_Has.p {γ : Type} (k : Bool → γ) (a0 : Int) (a1 : Int) (b : Int) : A.ref_Has.c k a0 a1 b = k (A.ref_Has a0 a1 b) := by
  unfold A.ref_Has A.ref_Has.c; (repeat' (first | (apply pc k) | (exact rfl)))
theorem A.ref_Has.r (a0 : Int) (a1 : Int) (b : Int) : runF P G (tab L_A.ref_normal) { merge := true } 60 Tryz.f67 [.agg #[.int .i64 a0, .int .i64 a1], .int .i64 b] = A.ref_Has.c (fun q => some (.bool (q) : Value)) a0 a1 b := by kernel_rfl
theorem A.ref_Has.t : TabOK P G (tab L_A.ref_Has) :=
  TabOK_mk C A.ref_normal.t Tryz.func67 (by kernel_rfl) true 60 (by
    rintro ⟨⟨a0, ⟨a1, ⟨⟩⟩⟩, ⟨b, ⟨⟩⟩⟩ h
    exact (A.ref_Has.r a0 a1 b).trans (A.ref_Has.p (fun q => some (.bool (q) : Value)) a0 a1 b))
def A.ref_Leq.c0 {γ : Type} (k : Bool → γ) (a0 : Int) (a1 : Int) (b0 : Int) (b1 : Int) (t1 : Bool) : γ := bif t1
  then k (true)
  else bif decide (b0 ≤ a0)
   then k (decide (a1 ≤ b1))
   else k (false)
def A.ref_Leq.c {γ : Type} (k : Bool → γ) (a0 : Int) (a1 : Int) (b0 : Int) (b1 : Int) : γ := let t1 := A.ref_Empty a0 a1; A.ref_Leq.c0 k a0 a1 b0 b1 t1
def A.ref_Leq (a0 : Int) (a1 : Int) (b0 : Int) (b1 : Int) : Bool := A.ref_Leq.c id a0 a1 b0 b1
def A.ref_Leq.F : FV := mkF (cP (cA (cP (cI .i64) (cP (cI .i64) cU))) (cP (cA (cP (cI .i64) (cP (cI .i64) cU))) cU)) (fun _ => true) (fun | ((a0, (a1, ())), ((b0, (b1, ())), ())) => .bool (A.ref_Leq a0 a1 b0 b1))
def L_A.ref_Leq : TL := (71, A.ref_Leq.F) :: L_A.ref_Has
theorem A.ref_Leq.p0 {γ : Type} (k : Bool → γ) (a0 : Int) (a1 : Int) (b0 : Int) (b1 : Int) (t1 : Bool) : A.ref_Leq.c0 k a0 a1 b0 b1 t1 = k (A.ref_Leq.c0 id a0 a1 b0 b1 t1) := by
  unfold A.ref_Leq.c0; (repeat' (first | (apply pc k) | (exact rfl)))
theorem A.ref_Leq.p {γ : Type} (k : Bool → γ) (a0 : Int) (a1 : Int) (b0 : Int) (b1 : Int) : A.ref_Leq.c k a0 a1 b0 b1 = k (A.ref_Leq a0 a1 b0 b1) :=
  let t1 := A.ref_Empty a0 a1; A.ref_Leq.p0 k a0 a1 b0 b1 t1
theorem A.ref_Leq.r (a0 : Int) (a1 : Int) (b0 : Int) (b1 : Int) : runF P G (tab L_A.ref_Has) { merge := true } 60 Tryz.f71 [.agg #[.int .i64 a0, .int .i64 a1], .agg #[.int .i64 b0, .int .i64 b1]] = A.ref_Leq.c (fun q => some (.bool (q) : Value)) a0 a1 b0 b1 := by kernel_rfl
theorem A.ref_Leq.t : TabOK P G (tab L_A.ref_Leq) :=
  TabOK_mk C A.ref_Has.t Tryz.func71 (by kernel_rfl) true 60 (by
    rintro ⟨⟨a0, ⟨a1, ⟨⟩⟩⟩, ⟨⟨b0, ⟨b1, ⟨⟩⟩⟩, ⟨⟩⟩⟩ h
    exact (A.ref_Leq.r a0 a1 b0 b1).trans (A.ref_Leq.p (fun q => some (.bool (q) : Value)) a0 a1 b0 b1))
def A.ref_Join.c0 {γ : Type} (k : Int × Int → γ) (a0 : Int) (a1 : Int) (b0 : Int) (b1 : Int) (t1 : Bool) (t2 : Int × Int) (t3 : Bool) (t4 : Int) (t5 : Int) : γ := bif t1
  then k (t2.fst, t2.snd)
  else bif t3
   then k (a0, a1)
   else k (t4, t5)
def A.ref_Join.c {γ : Type} (k : Int × Int → γ) (a0 : Int) (a1 : Int) (b0 : Int) (b1 : Int) : γ := let t1 := A.ref_Empty a0 a1; let t2 := A.ref_normal b0 b1; let t3 := A.ref_Empty b0 b1; let t4 := if b0 < a0 then b0 else a0; let t5 := if b1 > a1 then b1 else a1; A.ref_Join.c0 k a0 a1 b0 b1 t1 t2 t3 t4 t5
def A.ref_Join (a0 : Int) (a1 : Int) (b0 : Int) (b1 : Int) : Int × Int := A.ref_Join.c id a0 a1 b0 b1
def A.ref_Join.F : FV := mkF (cP (cA (cP (cI .i64) (cP (cI .i64) cU))) (cP (cA (cP (cI .i64) (cP (cI .i64) cU))) cU)) (fun _ => true) (fun | ((a0, (a1, ())), ((b0, (b1, ())), ())) => .agg #[.int .i64 (A.ref_Join a0 a1 b0 b1).1, .int .i64 (A.ref_Join a0 a1 b0 b1).2])
def L_A.ref_Join : TL := (75, A.ref_Join.F) :: L_A.ref_Leq
theorem A.ref_Join.p0 {γ : Type} (k : Int × Int → γ) (a0 : Int) (a1 : Int) (b0 : Int) (b1 : Int) (t1 : Bool) (t2 : Int × Int) (t3 : Bool) (t4 : Int) (t5 : Int) : A.ref_Join.c0 k a0 a1 b0 b1 t1 t2 t3 t4 t5 = k (A.ref_Join.c0 id a0 a1 b0 b1 t1 t2 t3 t4 t5) := by
  unfold A.ref_Join.c0; (repeat' (first | (apply pc k) | (exact rfl)))
theorem A.ref_Join.p {γ : Type} (k : Int × Int → γ) (a0 : Int) (a1 : Int) (b0 : Int) (b1 : Int) : A.ref_Join.c k a0 a1 b0 b1 = k (A.ref_Join a0 a1 b0 b1) :=
  let t1 := A.ref_Empty a0 a1; let t2 := A.ref_normal b0 b1; let t3 := A.ref_Empty b0 b1; let t4 := if b0 < a0 then b0 else a0; let t5 := if b1 > a1 then b1 else a1; A.ref_Join.p0 k a0 a1 b0 b1 t1 t2 t3 t4 t5
theorem A.ref_Join.r (a0 : Int) (a1 : Int) (b0 : Int) (b1 : Int) : runF P G (tab L_A.ref_Leq) { merge := true } 60 Tryz.f75 [.agg #[.int .i64 a0, .int .i64 a1], .agg #[.int .i64 b0, .int .i64 b1]] = A.ref_Join.c (fun q => some (.agg #[.int .i64 (q).1, .int .i64 (q).2] : Value)) a0 a1 b0 b1 := by kernel_rfl
theorem A.ref_Join.t : TabOK P G (tab L_A.ref_Join) :=
  TabOK_mk C A.ref_Leq.t Tryz.func75 (by kernel_rfl) true 60 (by
    rintro ⟨⟨a0, ⟨a1, ⟨⟩⟩⟩, ⟨⟨b0, ⟨b1, ⟨⟩⟩⟩, ⟨⟩⟩⟩ h
    exact (A.ref_Join.r a0 a1 b0 b1).trans (A.ref_Join.p (fun q => some (.agg #[.int .i64 (q).1, .int .i64 (q).2] : Value)) a0 a1 b0 b1))
def A.ref_Meet.c0 {γ : Type} (k : Int × Int → γ) (a0 : Int) (a1 : Int) (b0 : Int) (b1 : Int) (t1 : Int) (t2 : Int) (t3 : Int × Int) : γ := k (t3.fst, t3.snd)
def A.ref_Meet.c {γ : Type} (k : Int × Int → γ) (a0 : Int) (a1 : Int) (b0 : Int) (b1 : Int) : γ := let t1 := if b0 > a0 then b0 else a0; let t2 := if b1 < a1 then b1 else a1; let t3 := A.ref_normal t1 t2; A.ref_Meet.c0 k a0 a1 b0 b1 t1 t2 t3
def A.ref_Meet (a0 : Int) (a1 : Int) (b0 : Int) (b1 : Int) : Int × Int := A.ref_Meet.c id a0 a1 b0 b1
def A.ref_Meet.F : FV := mkF (cP (cA (cP (cI .i64) (cP (cI .i64) cU))) (cP (cA (cP (cI .i64) (cP (cI .i64) cU))) cU)) (fun _ => true) (fun | ((a0, (a1, ())), ((b0, (b1, ())), ())) => .agg #[.int .i64 (A.ref_Meet a0 a1 b0 b1).1, .int .i64 (A.ref_Meet a0 a1 b0 b1).2])
def L_A.ref_Meet : TL := (80, A.ref_Meet.F) :: L_A.ref_Join
theorem A.ref_Meet.p0 {γ : Type} (k : Int × Int → γ) (a0 : Int) (a1 : Int) (b0 : Int) (b1 : Int) (t1 : Int) (t2 : Int) (t3 : Int × Int) : A.ref_Meet.c0 k a0 a1 b0 b1 t1 t2 t3 = k (A.ref_Meet.c0 id a0 a1 b0 b1 t1 t2 t3) := by
  unfold A.ref_Meet.c0; (repeat' (first | (apply pc k) | (exact rfl)))
theorem A.ref_Meet.p {γ : Type} (k : Int × Int → γ) (a0 : Int) (a1 : Int) (b0 : Int) (b1 : Int) : A.ref_Meet.c k a0 a1 b0 b1 = k (A.ref_Meet a0 a1 b0 b1) :=
  let t1 := if b0 > a0 then b0 else a0; let t2 := if b1 < a1 then b1 else a1; let t3 := A.ref_normal t1 t2; A.ref_Meet.p0 k a0 a1 b0 b1 t1 t2 t3
theorem A.ref_Meet.r (a0 : Int) (a1 : Int) (b0 : Int) (b1 : Int) : runF P G (tab L_A.ref_Join) { merge := true } 60 Tryz.f80 [.agg #[.int .i64 a0, .int .i64 a1], .agg #[.int .i64 b0, .int .i64 b1]] = A.ref_Meet.c (fun q => some (.agg #[.int .i64 (q).1, .int .i64 (q).2] : Value)) a0 a1 b0 b1 := by kernel_rfl
theorem A.ref_Meet.t : TabOK P G (tab L_A.ref_Meet) :=
  TabOK_mk C A.ref_Join.t Tryz.func80 (by kernel_rfl) true 60 (by
    rintro ⟨⟨a0, ⟨a1, ⟨⟩⟩⟩, ⟨⟨b0, ⟨b1, ⟨⟩⟩⟩, ⟨⟩⟩⟩ h
    exact (A.ref_Meet.r a0 a1 b0 b1).trans (A.ref_Meet.p (fun q => some (.agg #[.int .i64 (q).1, .int .i64 (q).2] : Value)) a0 a1 b0 b1))
def A.ival_Mul.c0 {γ : Type} (k : Int × Int × Bool → γ) (a0 : Int) (a1 : Int) (b0 : Int) (b1 : Int) (t1 : Bool) (t2 : Bool) (t3 : Int × Int) (t4 : Int) (t5 : Int × Int) (t6 : Int) (t7 : Int × Int) (t8 : Int) (t9 : Int × Int) (t10 : Int) (t11 : Int) (t12 : Int × Int) (t13 : Int) (t14 : Int × Int) (t15 : Int) (t16 : Int × Int) (t17 : Int) (t18 : Int × Int) (t19 : Bool) (t20 : Bool) : γ := bif t1
  then k (1, 0, true)
  else bif t2
   then k (1, 0, true)
   else bif t3.fst == t4.fdiv (2 ^ min (Int.toNat 63) IntKind.i64.bits)
    then bif t5.fst == t6.fdiv (2 ^ min (Int.toNat 63) IntKind.i64.bits)
     then bif t7.fst == t8.fdiv (2 ^ min (Int.toNat 63) IntKind.i64.bits)
      then bif t9.fst == t10.fdiv (2 ^ min (Int.toNat 63) IntKind.i64.bits)
       then k (t18.fst, t18.snd, t9.fst == t10.fdiv (2 ^ min (Int.toNat 63) IntKind.i64.bits))
       else bif t19
        then bif t20
         then k (t18.fst, t18.snd, t9.fst == t10.fdiv (2 ^ min (Int.toNat 63) IntKind.i64.bits))
         else k (-9223372036854775808, 9223372036854775807, false)
        else k (-9223372036854775808, 9223372036854775807, false)
      else bif t19
       then bif t20
        then k (t18.fst, t18.snd, false)
        else k (-9223372036854775808, 9223372036854775807, false)
       else k (-9223372036854775808, 9223372036854775807, false)
     else bif t19
      then bif t20
       then k (t18.fst, t18.snd, false)
       else k (-9223372036854775808, 9223372036854775807, false)
      else k (-9223372036854775808, 9223372036854775807, false)
    else bif t19
     then bif t20
      then k (t18.fst, t18.snd, false)
      else k (-9223372036854775808, 9223372036854775807, false)
     else k (-9223372036854775808, 9223372036854775807, false)
def A.ival_Mul.c {γ : Type} (k : Int × Int × Bool → γ) (a0 : Int) (a1 : Int) (b0 : Int) (b1 : Int) : γ := let t1 := A.ival_none a0 a1; let t2 := A.ival_none b0 b1; let t3 := word_Wide a0 b0; let t4 := IntKind.i64.wrap t3.snd; let t5 := word_Wide a0 b1; let t6 := IntKind.i64.wrap t5.snd; let t7 := word_Wide a1 b0; let t8 := IntKind.i64.wrap t7.snd; let t9 := word_Wide a1 b1; let t10 := IntKind.i64.wrap t9.snd; let t11 := word_Mul a0 b0; let t12 := A.ival_Join 1 0 t11 t11; let t13 := word_Mul a0 b1; let t14 := A.ival_Join t12.fst t12.snd t13 t13; let t15 := word_Mul a1 b0; let t16 := A.ival_Join t14.fst t14.snd t15 t15; let t17 := word_Mul a1 b1; let t18 := A.ival_Join t16.fst t16.snd t17 t17; let t19 := A.ival_one a0 a1; let t20 := A.ival_one b0 b1; A.ival_Mul.c0 k a0 a1 b0 b1 t1 t2 t3 t4 t5 t6 t7 t8 t9 t10 t11 t12 t13 t14 t15 t16 t17 t18 t19 t20
def A.ival_Mul (a0 : Int) (a1 : Int) (b0 : Int) (b1 : Int) : Int × Int × Bool := A.ival_Mul.c id a0 a1 b0 b1
def A.ival_Mul.F : FV := mkF (cP (cA (cP (cI .i64) (cP (cI .i64) cU))) (cP (cA (cP (cI .i64) (cP (cI .i64) cU))) cU)) (fun _ => true) (fun | ((a0, (a1, ())), ((b0, (b1, ())), ())) => .tuple #[.agg #[.int .i64 (A.ival_Mul a0 a1 b0 b1).1, .int .i64 (A.ival_Mul a0 a1 b0 b1).2.1], .bool (A.ival_Mul a0 a1 b0 b1).2.2])
def L_A.ival_Mul : TL := (122, A.ival_Mul.F) :: L_A.ref_Meet
theorem A.ival_Mul.p0 {γ : Type} (k : Int × Int × Bool → γ) (a0 : Int) (a1 : Int) (b0 : Int) (b1 : Int) (t1 : Bool) (t2 : Bool) (t3 : Int × Int) (t4 : Int) (t5 : Int × Int) (t6 : Int) (t7 : Int × Int) (t8 : Int) (t9 : Int × Int) (t10 : Int) (t11 : Int) (t12 : Int × Int) (t13 : Int) (t14 : Int × Int) (t15 : Int) (t16 : Int × Int) (t17 : Int) (t18 : Int × Int) (t19 : Bool) (t20 : Bool) : A.ival_Mul.c0 k a0 a1 b0 b1 t1 t2 t3 t4 t5 t6 t7 t8 t9 t10 t11 t12 t13 t14 t15 t16 t17 t18 t19 t20 = k (A.ival_Mul.c0 id a0 a1 b0 b1 t1 t2 t3 t4 t5 t6 t7 t8 t9 t10 t11 t12 t13 t14 t15 t16 t17 t18 t19 t20) := by
  unfold A.ival_Mul.c0; (repeat' (first | (apply pc k) | (exact rfl)))
theorem A.ival_Mul.p {γ : Type} (k : Int × Int × Bool → γ) (a0 : Int) (a1 : Int) (b0 : Int) (b1 : Int) : A.ival_Mul.c k a0 a1 b0 b1 = k (A.ival_Mul a0 a1 b0 b1) :=
  let t1 := A.ival_none a0 a1; let t2 := A.ival_none b0 b1; let t3 := word_Wide a0 b0; let t4 := IntKind.i64.wrap t3.snd; let t5 := word_Wide a0 b1; let t6 := IntKind.i64.wrap t5.snd; let t7 := word_Wide a1 b0; let t8 := IntKind.i64.wrap t7.snd; let t9 := word_Wide a1 b1; let t10 := IntKind.i64.wrap t9.snd; let t11 := word_Mul a0 b0; let t12 := A.ival_Join 1 0 t11 t11; let t13 := word_Mul a0 b1; let t14 := A.ival_Join t12.fst t12.snd t13 t13; let t15 := word_Mul a1 b0; let t16 := A.ival_Join t14.fst t14.snd t15 t15; let t17 := word_Mul a1 b1; let t18 := A.ival_Join t16.fst t16.snd t17 t17; let t19 := A.ival_one a0 a1; let t20 := A.ival_one b0 b1; A.ival_Mul.p0 k a0 a1 b0 b1 t1 t2 t3 t4 t5 t6 t7 t8 t9 t10 t11 t12 t13 t14 t15 t16 t17 t18 t19 t20
theorem A.ival_Mul.r (a0 : Int) (a1 : Int) (b0 : Int) (b1 : Int) : runF P G (tab L_A.ref_Meet) { merge := true } 60 Tryz.f122 [.agg #[.int .i64 a0, .int .i64 a1], .agg #[.int .i64 b0, .int .i64 b1]] = A.ival_Mul.c (fun q => some (.tuple #[.agg #[.int .i64 (q).1, .int .i64 (q).2.1], .bool (q).2.2] : Value)) a0 a1 b0 b1 := by kernel_rfl
theorem A.ival_Mul.t : TabOK P G (tab L_A.ival_Mul) :=
  TabOK_mk C A.ref_Meet.t Tryz.func122 (by kernel_rfl) true 60 (by
    rintro ⟨⟨a0, ⟨a1, ⟨⟩⟩⟩, ⟨⟨b0, ⟨b1, ⟨⟩⟩⟩, ⟨⟩⟩⟩ h
    exact (A.ival_Mul.r a0 a1 b0 b1).trans (A.ival_Mul.p (fun q => some (.tuple #[.agg #[.int .i64 (q).1, .int .i64 (q).2.1], .bool (q).2.2] : Value)) a0 a1 b0 b1))
def A.ival_cornersQ.c0 {γ : Type} (k : Int × Int → γ) (a0 : Int) (a1 : Int) (b0 : Int) (b1 : Int) (t1 : Bool) (t2 : Bool) (t3 : Int × Bool) (t4 : Int × Int) (t5 : Int × Bool) (t6 : Int × Int) (t7 : Int × Bool) (t8 : Int × Int) (t9 : Int × Bool) (t10 : Int × Int) : γ := bif t1
  then k (1, 0)
  else bif t2
   then k (1, 0)
   else k (t10.fst, t10.snd)
def A.ival_cornersQ.c {γ : Type} (k : Int × Int → γ) (a0 : Int) (a1 : Int) (b0 : Int) (b1 : Int) : γ := let t1 := A.ival_none a0 a1; let t2 := A.ival_none b0 b1; let t3 := word_Div a0 b0; let t4 := A.ival_Join 1 0 t3.fst t3.fst; let t5 := word_Div a0 b1; let t6 := A.ival_Join t4.fst t4.snd t5.fst t5.fst; let t7 := word_Div a1 b0; let t8 := A.ival_Join t6.fst t6.snd t7.fst t7.fst; let t9 := word_Div a1 b1; let t10 := A.ival_Join t8.fst t8.snd t9.fst t9.fst; A.ival_cornersQ.c0 k a0 a1 b0 b1 t1 t2 t3 t4 t5 t6 t7 t8 t9 t10
def A.ival_cornersQ (a0 : Int) (a1 : Int) (b0 : Int) (b1 : Int) : Int × Int := A.ival_cornersQ.c id a0 a1 b0 b1
def A.ival_cornersQ.F : FV := mkF (cP (cA (cP (cI .i64) (cP (cI .i64) cU))) (cP (cA (cP (cI .i64) (cP (cI .i64) cU))) (cP (cF 219) cU))) (fun _ => true) (fun | ((a0, (a1, ())), ((b0, (b1, ())), ((), ()))) => .agg #[.int .i64 (A.ival_cornersQ a0 a1 b0 b1).1, .int .i64 (A.ival_cornersQ a0 a1 b0 b1).2])
def L_A.ival_cornersQ : TL := (209, A.ival_cornersQ.F) :: L_A.ival_Mul
theorem A.ival_cornersQ.p0 {γ : Type} (k : Int × Int → γ) (a0 : Int) (a1 : Int) (b0 : Int) (b1 : Int) (t1 : Bool) (t2 : Bool) (t3 : Int × Bool) (t4 : Int × Int) (t5 : Int × Bool) (t6 : Int × Int) (t7 : Int × Bool) (t8 : Int × Int) (t9 : Int × Bool) (t10 : Int × Int) : A.ival_cornersQ.c0 k a0 a1 b0 b1 t1 t2 t3 t4 t5 t6 t7 t8 t9 t10 = k (A.ival_cornersQ.c0 id a0 a1 b0 b1 t1 t2 t3 t4 t5 t6 t7 t8 t9 t10) := by
  unfold A.ival_cornersQ.c0; (repeat' (first | (apply pc k) | (exact rfl)))
theorem A.ival_cornersQ.p {γ : Type} (k : Int × Int → γ) (a0 : Int) (a1 : Int) (b0 : Int) (b1 : Int) : A.ival_cornersQ.c k a0 a1 b0 b1 = k (A.ival_cornersQ a0 a1 b0 b1) :=
  let t1 := A.ival_none a0 a1; let t2 := A.ival_none b0 b1; let t3 := word_Div a0 b0; let t4 := A.ival_Join 1 0 t3.fst t3.fst; let t5 := word_Div a0 b1; let t6 := A.ival_Join t4.fst t4.snd t5.fst t5.fst; let t7 := word_Div a1 b0; let t8 := A.ival_Join t6.fst t6.snd t7.fst t7.fst; let t9 := word_Div a1 b1; let t10 := A.ival_Join t8.fst t8.snd t9.fst t9.fst; A.ival_cornersQ.p0 k a0 a1 b0 b1 t1 t2 t3 t4 t5 t6 t7 t8 t9 t10
theorem A.ival_cornersQ.r (a0 : Int) (a1 : Int) (b0 : Int) (b1 : Int) : runF P G (tab L_A.ival_Mul) { merge := true } 60 Tryz.f209 [.agg #[.int .i64 a0, .int .i64 a1], .agg #[.int .i64 b0, .int .i64 b1], .func (.func 219) #[] #[]] = A.ival_cornersQ.c (fun q => some (.agg #[.int .i64 (q).1, .int .i64 (q).2] : Value)) a0 a1 b0 b1 := by kernel_rfl
theorem A.ival_cornersQ.t : TabOK P G (tab L_A.ival_cornersQ) :=
  TabOK_mk C A.ival_Mul.t Tryz.func209 (by kernel_rfl) true 60 (by
    rintro ⟨⟨a0, ⟨a1, ⟨⟩⟩⟩, ⟨⟨b0, ⟨b1, ⟨⟩⟩⟩, ⟨⟨⟩, ⟨⟩⟩⟩⟩ h
    exact (A.ival_cornersQ.r a0 a1 b0 b1).trans (A.ival_cornersQ.p (fun q => some (.agg #[.int .i64 (q).1, .int .i64 (q).2] : Value)) a0 a1 b0 b1))
end
end Go.Proofs.YtonpbbhlmapbdaaGreatDoor.V
