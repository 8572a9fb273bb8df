/- What the functions of this seat compute, told by evaluation of their code. Conditions: none. -/
import Derived.Test.YtoggbmfjkcbilaaDoorE2
set_option linter.unusedVariables false
set_option linter.unusedSimpArgs false
namespace Go.Proofs.YtoggbmfjkcbilaaDoor.V
open Go Go.Wk
noncomputable section

def cong_Has.c0 {γ : Type} (k : Bool → γ) (a0 : Int) (a1 : Int) (b : Int) (t1 : Int × Int) (t2 : Int) : γ := k (t2 == t1.snd)
def cong_Has.c {γ : Type} (k : Bool → γ) (a0 : Int) (a1 : Int) (b : Int) : γ := let t1 := cong_Norm a0 a1; let t2 := word_Mod b t1.fst; cong_Has.c0 k a0 a1 b t1 t2
def cong_Has (a0 : Int) (a1 : Int) (b : Int) : Bool := cong_Has.c id a0 a1 b
def cong_Has.F : FV := mkF (cP (cA (cP (cI .u64) (cP (cI .u64) cU))) (cP (cI .i64) cU)) (fun _ => true) (fun | ((a0, (a1, ())), (b, ())) => .bool (cong_Has a0 a1 b))
def L_cong_Has : TL := (12, cong_Has.F) :: L_cong_inverse
theorem cong_Has.p0 {γ : Type} (k : Bool → γ) (a0 : Int) (a1 : Int) (b : Int) (t1 : Int × Int) (t2 : Int) : cong_Has.c0 k a0 a1 b t1 t2 = k (cong_Has.c0 id a0 a1 b t1 t2) := by
  unfold cong_Has.c0; (repeat' (first | (apply pc k) | (exact rfl)))
theorem cong_Has.p {γ : Type} (k : Bool → γ) (a0 : Int) (a1 : Int) (b : Int) : cong_Has.c k a0 a1 b = k (cong_Has a0 a1 b) :=
  let t1 := cong_Norm a0 a1; let t2 := word_Mod b t1.fst; cong_Has.p0 k a0 a1 b t1 t2
theorem cong_Has.r (a0 : Int) (a1 : Int) (b : Int) : runF P GS (tab L_cong_inverse) { merge := true } 60 Tryd.f12 [.agg #[.int .u64 a0, .int .u64 a1], .int .i64 b] = cong_Has.c (fun q => some (.bool (q) : Value)) a0 a1 b := by kernel_rfl
theorem cong_Has.t : TabOK P GS (tab L_cong_Has) :=
  TabOK_mk CS cong_inverse.t Tryd.func12 (by kernel_rfl) true 60 (by
    rintro ⟨⟨a0, ⟨a1, ⟨⟩⟩⟩, ⟨b, ⟨⟩⟩⟩ h
    exact (cong_Has.r a0 a1 b).trans (cong_Has.p (fun q => some (.bool (q) : Value)) a0 a1 b))

def cong_Leq.c0 {γ : Type} (n : γ) (k : Bool → γ) (a0 : Int) (a1 : Int) (b0 : Int) (b1 : Int) (t1 : Int × Int) (t2 : Bool) (t3 : Int × Int) (t4 : Int) : γ := bif t2
  then k (t3.fst == t1.fst && (t3.snd == t1.snd && true))
  else bif !decide (t1.fst = 0)
   then bif t3.fst.tmod t1.fst == 0
    then k (t4 == t1.snd)
    else k (false)
   else n
def cong_Leq.c {γ : Type} (n : γ) (k : Bool → γ) (a0 : Int) (a1 : Int) (b0 : Int) (b1 : Int) : γ := let t1 := cong_Norm b0 b1; let t2 := cong_alone t1.fst t1.snd; let t3 := cong_Norm a0 a1; let t4 := cong_rest t3.fst t3.snd t1.fst; cong_Leq.c0 n k a0 a1 b0 b1 t1 t2 t3 t4
def cong_Leq.ok (a0 : Int) (a1 : Int) (b0 : Int) (b1 : Int) : Bool := cong_Leq.c false (fun _ => true) a0 a1 b0 b1
def cong_Leq (a0 : Int) (a1 : Int) (b0 : Int) (b1 : Int) : Bool := cong_Leq.c (false) id a0 a1 b0 b1
def cong_Leq.F : FV := mkF (cP (cA (cP (cI .u64) (cP (cI .u64) cU))) (cP (cA (cP (cI .u64) (cP (cI .u64) cU))) cU)) (fun | ((a0, (a1, ())), ((b0, (b1, ())), ())) => cong_Leq.ok a0 a1 b0 b1) (fun | ((a0, (a1, ())), ((b0, (b1, ())), ())) => .bool (cong_Leq a0 a1 b0 b1))
def L_cong_Leq : TL := (13, cong_Leq.F) :: L_cong_Has
theorem cong_Leq.p0 {γ : Type} (k : Bool → γ) (a0 : Int) (a1 : Int) (b0 : Int) (b1 : Int) (t1 : Int × Int) (t2 : Bool) (t3 : Int × Int) (t4 : Int) : cong_Leq.c0 false (fun _ => true) a0 a1 b0 b1 t1 t2 t3 t4 = true → cong_Leq.c0 none (fun q => some (k q)) a0 a1 b0 b1 t1 t2 t3 t4 = some (k (cong_Leq.c0 (false) id a0 a1 b0 b1 t1 t2 t3 t4)) := by
  unfold cong_Leq.c0; (repeat' (first | (apply pn k) | (exact pn_none _ _) | (exact pn_leaf k _)))
theorem cong_Leq.p {γ : Type} (k : Bool → γ) (a0 : Int) (a1 : Int) (b0 : Int) (b1 : Int) (h : cong_Leq.ok a0 a1 b0 b1 = true) : cong_Leq.c none (fun q => some (k q)) a0 a1 b0 b1 = some (k (cong_Leq a0 a1 b0 b1)) :=
  let t1 := cong_Norm b0 b1; let t2 := cong_alone t1.fst t1.snd; let t3 := cong_Norm a0 a1; let t4 := cong_rest t3.fst t3.snd t1.fst; cong_Leq.p0 k a0 a1 b0 b1 t1 t2 t3 t4 h
theorem cong_Leq.r (a0 : Int) (a1 : Int) (b0 : Int) (b1 : Int) : runF P GS (tab L_cong_Has) { merge := true } 60 Tryd.f13 [.agg #[.int .u64 a0, .int .u64 a1], .agg #[.int .u64 b0, .int .u64 b1]] = cong_Leq.c none (fun q => some (.bool (q) : Value)) a0 a1 b0 b1 := by kernel_rfl
theorem cong_Leq.t : TabOK P GS (tab L_cong_Leq) :=
  TabOK_mk CS cong_Has.t Tryd.func13 (by kernel_rfl) true 60 (by
    rintro ⟨⟨a0, ⟨a1, ⟨⟩⟩⟩, ⟨⟨b0, ⟨b1, ⟨⟩⟩⟩, ⟨⟩⟩⟩ h
    exact (cong_Leq.r a0 a1 b0 b1).trans (cong_Leq.p (fun q => (.bool (q) : Value)) a0 a1 b0 b1 h))

def cong_Join.c0 {γ : Type} (n : γ) (k : Int × Int → γ) (a0 : Int) (a1 : Int) (b0 : Int) (b1 : Int) (t1 : Int × Int) (t2 : Bool) (t3 : Int) (t4 : Int × Int) (t5 : Bool) (t6 : Int) (t7 : Int) (t8 : Int) (t9 : Int) (t10 : Int) (t11 : Int) (t12 : Int) (t13 : Int) (t14 : Int) (t15 : Bool) (t16 : Int) (t17 : Int) (t18 : Int) (t19 : Int) (t20 : Int) (t21 : Int) (t22 : Bool) (t23 : Int) (t24 : Int) : γ := bif t2
  then bif t5
   then bif t6 == 0
    then k (t13, t14)
    else bif t15
     then bif t22
      then k (t23, t24)
      else n
     else n
   else n
  else n
def cong_Join.c {γ : Type} (n : γ) (k : Int × Int → γ) (a0 : Int) (a1 : Int) (b0 : Int) (b1 : Int) : γ := let t1 := cong_Norm a0 a1; let t2 := word_Gcd.g 0 t1.fst; let t3 := word_Gcd 0 t1.fst; let t4 := cong_Norm b0 b1; let t5 := word_Gcd.g t3 t4.fst; let t6 := word_Gcd t3 t4.fst; let t7 := IntKind.i64.wrap t4.snd; let t8 := IntKind.i64.wrap t1.snd; let t9 := if t7 > t8 then t7 else t8; let t10 := IntKind.u64.wrap t9; let t11 := if t7 < t8 then t7 else t8; let t12 := IntKind.u64.wrap t11; let t13 := IntKind.u64.wrap (t10 - t12); let t14 := cong_rest t1.fst t1.snd t13; let t15 := word_Gcd.g 0 t6; let t16 := word_Gcd 0 t6; let t17 := cong_rest t4.fst t4.snd t6; let t18 := cong_rest t1.fst t1.snd t6; let t19 := if t17 > t18 then t17 else t18; let t20 := if t17 < t18 then t17 else t18; let t21 := IntKind.u64.wrap (t19 - t20); let t22 := word_Gcd.g t16 t21; let t23 := word_Gcd t16 t21; let t24 := cong_rest t1.fst t1.snd t23; cong_Join.c0 n k a0 a1 b0 b1 t1 t2 t3 t4 t5 t6 t7 t8 t9 t10 t11 t12 t13 t14 t15 t16 t17 t18 t19 t20 t21 t22 t23 t24
def cong_Join.ok (a0 : Int) (a1 : Int) (b0 : Int) (b1 : Int) : Bool := cong_Join.c false (fun _ => true) a0 a1 b0 b1
def cong_Join (a0 : Int) (a1 : Int) (b0 : Int) (b1 : Int) : Int × Int := cong_Join.c (0, 0) id a0 a1 b0 b1
def cong_Join.F : FV := mkF (cP (cA (cP (cI .u64) (cP (cI .u64) cU))) (cP (cA (cP (cI .u64) (cP (cI .u64) cU))) cU)) (fun | ((a0, (a1, ())), ((b0, (b1, ())), ())) => cong_Join.ok a0 a1 b0 b1) (fun | ((a0, (a1, ())), ((b0, (b1, ())), ())) => .agg #[.int .u64 (cong_Join a0 a1 b0 b1).1, .int .u64 (cong_Join a0 a1 b0 b1).2])
def L_cong_Join : TL := (10, cong_Join.F) :: L_cong_Leq
theorem cong_Join.p0 {γ : Type} (k : Int × Int → γ) (a0 : Int) (a1 : Int) (b0 : Int) (b1 : Int) (t1 : Int × Int) (t2 : Bool) (t3 : Int) (t4 : Int × Int) (t5 : Bool) (t6 : Int) (t7 : Int) (t8 : Int) (t9 : Int) (t10 : Int) (t11 : Int) (t12 : Int) (t13 : Int) (t14 : Int) (t15 : Bool) (t16 : Int) (t17 : Int) (t18 : Int) (t19 : Int) (t20 : Int) (t21 : Int) (t22 : Bool) (t23 : Int) (t24 : Int) : cong_Join.c0 false (fun _ => true) a0 a1 b0 b1 t1 t2 t3 t4 t5 t6 t7 t8 t9 t10 t11 t12 t13 t14 t15 t16 t17 t18 t19 t20 t21 t22 t23 t24 = true → cong_Join.c0 none (fun q => some (k q)) a0 a1 b0 b1 t1 t2 t3 t4 t5 t6 t7 t8 t9 t10 t11 t12 t13 t14 t15 t16 t17 t18 t19 t20 t21 t22 t23 t24 = some (k (cong_Join.c0 (0, 0) id a0 a1 b0 b1 t1 t2 t3 t4 t5 t6 t7 t8 t9 t10 t11 t12 t13 t14 t15 t16 t17 t18 t19 t20 t21 t22 t23 t24)) := by
  unfold cong_Join.c0; (repeat' (first | (apply pn k) | (exact pn_none _ _) | (exact pn_leaf k _)))
theorem cong_Join.p {γ : Type} (k : Int × Int → γ) (a0 : Int) (a1 : Int) (b0 : Int) (b1 : Int) (h : cong_Join.ok a0 a1 b0 b1 = true) : cong_Join.c none (fun q => some (k q)) a0 a1 b0 b1 = some (k (cong_Join a0 a1 b0 b1)) :=
  let t1 := cong_Norm a0 a1; let t2 := word_Gcd.g 0 t1.fst; let t3 := word_Gcd 0 t1.fst; let t4 := cong_Norm b0 b1; let t5 := word_Gcd.g t3 t4.fst; let t6 := word_Gcd t3 t4.fst; let t7 := IntKind.i64.wrap t4.snd; let t8 := IntKind.i64.wrap t1.snd; let t9 := if t7 > t8 then t7 else t8; let t10 := IntKind.u64.wrap t9; let t11 := if t7 < t8 then t7 else t8; let t12 := IntKind.u64.wrap t11; let t13 := IntKind.u64.wrap (t10 - t12); let t14 := cong_rest t1.fst t1.snd t13; let t15 := word_Gcd.g 0 t6; let t16 := word_Gcd 0 t6; let t17 := cong_rest t4.fst t4.snd t6; let t18 := cong_rest t1.fst t1.snd t6; let t19 := if t17 > t18 then t17 else t18; let t20 := if t17 < t18 then t17 else t18; let t21 := IntKind.u64.wrap (t19 - t20); let t22 := word_Gcd.g t16 t21; let t23 := word_Gcd t16 t21; let t24 := cong_rest t1.fst t1.snd t23; cong_Join.p0 k a0 a1 b0 b1 t1 t2 t3 t4 t5 t6 t7 t8 t9 t10 t11 t12 t13 t14 t15 t16 t17 t18 t19 t20 t21 t22 t23 t24 h
theorem cong_Join.r (a0 : Int) (a1 : Int) (b0 : Int) (b1 : Int) : runF P GS (tab L_cong_Leq) { merge := true } 60 Tryd.f10 [.agg #[.int .u64 a0, .int .u64 a1], .agg #[.int .u64 b0, .int .u64 b1]] = cong_Join.c none (fun q => some (.agg #[.int .u64 (q).1, .int .u64 (q).2] : Value)) a0 a1 b0 b1 := by kernel_rfl
theorem cong_Join.t : TabOK P GS (tab L_cong_Join) :=
  TabOK_mk CS cong_Leq.t Tryd.func10 (by kernel_rfl) true 60 (by
    rintro ⟨⟨a0, ⟨a1, ⟨⟩⟩⟩, ⟨⟨b0, ⟨b1, ⟨⟩⟩⟩, ⟨⟩⟩⟩ h
    exact (cong_Join.r a0 a1 b0 b1).trans (cong_Join.p (fun q => (.agg #[.int .u64 (q).1, .int .u64 (q).2] : Value)) a0 a1 b0 b1 h))

def cong_next.c0 {γ : Type} (k : Int × Bool → γ) (a0 : Int) (a1 : Int) (b : Int) (c : Int) (t1 : Int × Int) (t2 : Bool) (t3 : Int) (t4 : Int) (t5 : Int) (t6 : Int) (t7 : Int) (t8 : Int) (t9 : Int) (t10 : Int) (t11 : Int) (t12 : Int) (t13 : Int) (t14 : Int) (t15 : Int) (t16 : Int) (t17 : Int) (t18 : Int) (t19 : Int) : γ := bif t2
  then bif t3 == b
   then k (t3, true)
   else bif decide (t3 > b) == decide (c > 0)
    then k (t3, true)
    else k (0, false)
  else bif decide (t5 ≥ t6)
   then bif decide (t7 ≤ t11)
    then k (t14, true)
    else k (0, false)
   else bif decide (t16 ≤ t11)
    then k (t19, true)
    else k (0, false)
def cong_next.c {γ : Type} (k : Int × Bool → γ) (a0 : Int) (a1 : Int) (b : Int) (c : Int) : γ := let t1 := cong_Norm a0 a1; let t2 := cong_alone t1.fst t1.snd; let t3 := IntKind.i64.wrap t1.snd; let t4 := word_Mod b t1.fst; let t5 := bif decide (c < 0) then t4 else t1.snd; let t6 := bif decide (c < 0) then t1.snd else t4; let t7 := IntKind.u64.wrap (t5 - t6); let t8 := IntKind.u64.wrap b; let t9 := IntKind.u64.wrap (t8 - 9223372036854775808); let t10 := IntKind.u64.wrap (9223372036854775807 - t8); let t11 := bif decide (c < 0) then t9 else t10; let t12 := IntKind.i64.wrap t7; let t13 := IntKind.i64.wrap (t12 * c); let t14 := IntKind.i64.wrap (b + t13); let t15 := IntKind.u64.wrap (t1.fst - t6); let t16 := IntKind.u64.wrap (t15 + t5); let t17 := IntKind.i64.wrap t16; let t18 := IntKind.i64.wrap (t17 * c); let t19 := IntKind.i64.wrap (b + t18); cong_next.c0 k a0 a1 b c t1 t2 t3 t4 t5 t6 t7 t8 t9 t10 t11 t12 t13 t14 t15 t16 t17 t18 t19
def cong_next (a0 : Int) (a1 : Int) (b : Int) (c : Int) : Int × Bool := cong_next.c id a0 a1 b c
def cong_next.F : FV := mkF (cP (cA (cP (cI .u64) (cP (cI .u64) cU))) (cP (cI .i64) (cP (cI .i64) cU))) (fun _ => true) (fun | ((a0, (a1, ())), (b, (c, ()))) => .tuple #[.int .i64 (cong_next a0 a1 b c).1, .bool (cong_next a0 a1 b c).2])
def L_cong_next : TL := (62, cong_next.F) :: L_cong_Join
theorem cong_next.p0 {γ : Type} (k : Int × Bool → γ) (a0 : Int) (a1 : Int) (b : Int) (c : Int) (t1 : Int × Int) (t2 : Bool) (t3 : Int) (t4 : Int) (t5 : Int) (t6 : Int) (t7 : Int) (t8 : Int) (t9 : Int) (t10 : Int) (t11 : Int) (t12 : Int) (t13 : Int) (t14 : Int) (t15 : Int) (t16 : Int) (t17 : Int) (t18 : Int) (t19 : Int) : cong_next.c0 k a0 a1 b c t1 t2 t3 t4 t5 t6 t7 t8 t9 t10 t11 t12 t13 t14 t15 t16 t17 t18 t19 = k (cong_next.c0 id a0 a1 b c t1 t2 t3 t4 t5 t6 t7 t8 t9 t10 t11 t12 t13 t14 t15 t16 t17 t18 t19) := by
  unfold cong_next.c0; (repeat' (first | (apply pc k) | (exact rfl)))
theorem cong_next.p {γ : Type} (k : Int × Bool → γ) (a0 : Int) (a1 : Int) (b : Int) (c : Int) : cong_next.c k a0 a1 b c = k (cong_next a0 a1 b c) :=
  let t1 := cong_Norm a0 a1; let t2 := cong_alone t1.fst t1.snd; let t3 := IntKind.i64.wrap t1.snd; let t4 := word_Mod b t1.fst; let t5 := bif decide (c < 0) then t4 else t1.snd; let t6 := bif decide (c < 0) then t1.snd else t4; let t7 := IntKind.u64.wrap (t5 - t6); let t8 := IntKind.u64.wrap b; let t9 := IntKind.u64.wrap (t8 - 9223372036854775808); let t10 := IntKind.u64.wrap (9223372036854775807 - t8); let t11 := bif decide (c < 0) then t9 else t10; let t12 := IntKind.i64.wrap t7; let t13 := IntKind.i64.wrap (t12 * c); let t14 := IntKind.i64.wrap (b + t13); let t15 := IntKind.u64.wrap (t1.fst - t6); let t16 := IntKind.u64.wrap (t15 + t5); let t17 := IntKind.i64.wrap t16; let t18 := IntKind.i64.wrap (t17 * c); let t19 := IntKind.i64.wrap (b + t18); cong_next.p0 k a0 a1 b c t1 t2 t3 t4 t5 t6 t7 t8 t9 t10 t11 t12 t13 t14 t15 t16 t17 t18 t19
theorem cong_next.r (a0 : Int) (a1 : Int) (b : Int) (c : Int) : runF P GS (tab L_cong_Join) { merge := true } 60 Tryd.f62 [.agg #[.int .u64 a0, .int .u64 a1], .int .i64 b, .int .i64 c] = cong_next.c (fun q => some (.tuple #[.int .i64 (q).1, .bool (q).2] : Value)) a0 a1 b c := by kernel_rfl
theorem cong_next.t : TabOK P GS (tab L_cong_next) :=
  TabOK_mk CS cong_Join.t Tryd.func62 (by kernel_rfl) true 60 (by
    rintro ⟨⟨a0, ⟨a1, ⟨⟩⟩⟩, ⟨b, ⟨c, ⟨⟩⟩⟩⟩ h
    exact (cong_next.r a0 a1 b c).trans (cong_next.p (fun q => some (.tuple #[.int .i64 (q).1, .bool (q).2] : Value)) a0 a1 b c))

def cong_Up.c0 {γ : Type} (k : Int × Bool → γ) (a0 : Int) (a1 : Int) (b : Int) (t1 : Int × Bool) : γ := k (t1.fst, t1.snd)
def cong_Up.c {γ : Type} (k : Int × Bool → γ) (a0 : Int) (a1 : Int) (b : Int) : γ := let t1 := cong_next a0 a1 b 1; cong_Up.c0 k a0 a1 b t1
def cong_Up (a0 : Int) (a1 : Int) (b : Int) : Int × Bool := cong_Up.c id a0 a1 b
def cong_Up.F : FV := mkF (cP (cA (cP (cI .u64) (cP (cI .u64) cU))) (cP (cI .i64) cU)) (fun _ => true) (fun | ((a0, (a1, ())), (b, ())) => .tuple #[.int .i64 (cong_Up a0 a1 b).1, .bool (cong_Up a0 a1 b).2])
def L_cong_Up : TL := (22, cong_Up.F) :: L_cong_next
theorem cong_Up.p0 {γ : Type} (k : Int × Bool → γ) (a0 : Int) (a1 : Int) (b : Int) (t1 : Int × Bool) : cong_Up.c0 k a0 a1 b t1 = k (cong_Up.c0 id a0 a1 b t1) := by
  unfold cong_Up.c0; (repeat' (first | (apply pc k) | (exact rfl)))
theorem cong_Up.p {γ : Type} (k : Int × Bool → γ) (a0 : Int) (a1 : Int) (b : Int) : cong_Up.c k a0 a1 b = k (cong_Up a0 a1 b) :=
  let t1 := cong_next a0 a1 b 1; cong_Up.p0 k a0 a1 b t1
theorem cong_Up.r (a0 : Int) (a1 : Int) (b : Int) : runF P GS (tab L_cong_next) { merge := true } 60 Tryd.f22 [.agg #[.int .u64 a0, .int .u64 a1], .int .i64 b] = cong_Up.c (fun q => some (.tuple #[.int .i64 (q).1, .bool (q).2] : Value)) a0 a1 b := by kernel_rfl
theorem cong_Up.t : TabOK P GS (tab L_cong_Up) :=
  TabOK_mk CS cong_next.t Tryd.func22 (by kernel_rfl) true 60 (by
    rintro ⟨⟨a0, ⟨a1, ⟨⟩⟩⟩, ⟨b, ⟨⟩⟩⟩ h
    exact (cong_Up.r a0 a1 b).trans (cong_Up.p (fun q => some (.tuple #[.int .i64 (q).1, .bool (q).2] : Value)) a0 a1 b))

def cong_Down.c0 {γ : Type} (k : Int × Bool → γ) (a0 : Int) (a1 : Int) (b : Int) (t1 : Int × Bool) : γ := k (t1.fst, t1.snd)
def cong_Down.c {γ : Type} (k : Int × Bool → γ) (a0 : Int) (a1 : Int) (b : Int) : γ := let t1 := cong_next a0 a1 b (-1); cong_Down.c0 k a0 a1 b t1
def cong_Down (a0 : Int) (a1 : Int) (b : Int) : Int × Bool := cong_Down.c id a0 a1 b
def cong_Down.F : FV := mkF (cP (cA (cP (cI .u64) (cP (cI .u64) cU))) (cP (cI .i64) cU)) (fun _ => true) (fun | ((a0, (a1, ())), (b, ())) => .tuple #[.int .i64 (cong_Down a0 a1 b).1, .bool (cong_Down a0 a1 b).2])
def L_cong_Down : TL := (24, cong_Down.F) :: L_cong_Up
theorem cong_Down.p0 {γ : Type} (k : Int × Bool → γ) (a0 : Int) (a1 : Int) (b : Int) (t1 : Int × Bool) : cong_Down.c0 k a0 a1 b t1 = k (cong_Down.c0 id a0 a1 b t1) := by
  unfold cong_Down.c0; (repeat' (first | (apply pc k) | (exact rfl)))
theorem cong_Down.p {γ : Type} (k : Int × Bool → γ) (a0 : Int) (a1 : Int) (b : Int) : cong_Down.c k a0 a1 b = k (cong_Down a0 a1 b) :=
  let t1 := cong_next a0 a1 b (-1); cong_Down.p0 k a0 a1 b t1
theorem cong_Down.r (a0 : Int) (a1 : Int) (b : Int) : runF P GS (tab L_cong_Up) { merge := true } 60 Tryd.f24 [.agg #[.int .u64 a0, .int .u64 a1], .int .i64 b] = cong_Down.c (fun q => some (.tuple #[.int .i64 (q).1, .bool (q).2] : Value)) a0 a1 b := by kernel_rfl
theorem cong_Down.t : TabOK P GS (tab L_cong_Down) :=
  TabOK_mk CS cong_Up.t Tryd.func24 (by kernel_rfl) true 60 (by
    rintro ⟨⟨a0, ⟨a1, ⟨⟩⟩⟩, ⟨b, ⟨⟩⟩⟩ h
    exact (cong_Down.r a0 a1 b).trans (cong_Down.p (fun q => some (.tuple #[.int .i64 (q).1, .bool (q).2] : Value)) a0 a1 b))

def cong_Neg.c0 {γ : Type} (n : γ) (k : Int × Int → γ) (a0 : Int) (a1 : Int) (b : Bool) (t1 : Int × Int) (t2 : Bool) (t3 : Int) (t4 : Int) (t5 : Int × Int) (t6 : Int) (t7 : Int) (t8 : Int) (t9 : Int) : γ := bif t2
  then k (t5.fst, t5.snd)
  else bif !decide (t7 = 0)
   then k (t7, t9.tmod t7)
   else n
def cong_Neg.c {γ : Type} (n : γ) (k : Int × Int → γ) (a0 : Int) (a1 : Int) (b : Bool) : γ := let t1 := cong_Norm a0 a1; let t2 := cong_alone t1.fst t1.snd; let t3 := IntKind.i64.wrap t1.snd; let t4 := word_Neg t3; let t5 := cong_Const t4; let t6 := cong_two t1.fst; let t7 := bif !b then t6 else t1.fst; let t8 := cong_rest t1.fst t1.snd t7; let t9 := cong_minus 0 t8 t7; cong_Neg.c0 n k a0 a1 b t1 t2 t3 t4 t5 t6 t7 t8 t9
def cong_Neg.ok (a0 : Int) (a1 : Int) (b : Bool) : Bool := cong_Neg.c false (fun _ => true) a0 a1 b
def cong_Neg (a0 : Int) (a1 : Int) (b : Bool) : Int × Int := cong_Neg.c (0, 0) id a0 a1 b
def cong_Neg.F : FV := mkF (cP (cA (cP (cI .u64) (cP (cI .u64) cU))) (cP cB cU)) (fun | ((a0, (a1, ())), (b, ())) => cong_Neg.ok a0 a1 b) (fun | ((a0, (a1, ())), (b, ())) => .agg #[.int .u64 (cong_Neg a0 a1 b).1, .int .u64 (cong_Neg a0 a1 b).2])
def L_cong_Neg : TL := (26, cong_Neg.F) :: L_cong_Down
theorem cong_Neg.p0 {γ : Type} (k : Int × Int → γ) (a0 : Int) (a1 : Int) (b : Bool) (t1 : Int × Int) (t2 : Bool) (t3 : Int) (t4 : Int) (t5 : Int × Int) (t6 : Int) (t7 : Int) (t8 : Int) (t9 : Int) : cong_Neg.c0 false (fun _ => true) a0 a1 b t1 t2 t3 t4 t5 t6 t7 t8 t9 = true → cong_Neg.c0 none (fun q => some (k q)) a0 a1 b t1 t2 t3 t4 t5 t6 t7 t8 t9 = some (k (cong_Neg.c0 (0, 0) id a0 a1 b t1 t2 t3 t4 t5 t6 t7 t8 t9)) := by
  unfold cong_Neg.c0; (repeat' (first | (apply pn k) | (exact pn_none _ _) | (exact pn_leaf k _)))
theorem cong_Neg.p {γ : Type} (k : Int × Int → γ) (a0 : Int) (a1 : Int) (b : Bool) (h : cong_Neg.ok a0 a1 b = true) : cong_Neg.c none (fun q => some (k q)) a0 a1 b = some (k (cong_Neg a0 a1 b)) :=
  let t1 := cong_Norm a0 a1; let t2 := cong_alone t1.fst t1.snd; let t3 := IntKind.i64.wrap t1.snd; let t4 := word_Neg t3; let t5 := cong_Const t4; let t6 := cong_two t1.fst; let t7 := bif !b then t6 else t1.fst; let t8 := cong_rest t1.fst t1.snd t7; let t9 := cong_minus 0 t8 t7; cong_Neg.p0 k a0 a1 b t1 t2 t3 t4 t5 t6 t7 t8 t9 h
theorem cong_Neg.r (a0 : Int) (a1 : Int) (b : Bool) : runF P GS (tab L_cong_Down) { merge := true } 60 Tryd.f26 [.agg #[.int .u64 a0, .int .u64 a1], .bool b] = cong_Neg.c none (fun q => some (.agg #[.int .u64 (q).1, .int .u64 (q).2] : Value)) a0 a1 b := by kernel_rfl
theorem cong_Neg.t : TabOK P GS (tab L_cong_Neg) :=
  TabOK_mk CS cong_Down.t Tryd.func26 (by kernel_rfl) true 60 (by
    rintro ⟨⟨a0, ⟨a1, ⟨⟩⟩⟩, ⟨b, ⟨⟩⟩⟩ h
    exact (cong_Neg.r a0 a1 b).trans (cong_Neg.p (fun q => (.agg #[.int .u64 (q).1, .int .u64 (q).2] : Value)) a0 a1 b h))

def cong_Add.c0 {γ : Type} (n : γ) (k : Int × Int → γ) (a0 : Int) (a1 : Int) (b0 : Int) (b1 : Int) (c : Bool) (t1 : Int × Int) (t2 : Bool) (t3 : Int × Int) (t4 : Bool) (t5 : Int) (t6 : Int) (t7 : Int) (t8 : Int × Int) (t9 : Bool) (t10 : Int) (t11 : Bool) (t12 : Int) (t13 : Int) (t14 : Int) (t15 : Int) (t16 : Int) (t17 : Int) : γ := bif t2
  then bif t4
   then k (t8.fst, t8.snd)
   else bif t9
    then bif t11
     then k (t14, t17)
     else n
    else n
  else bif t9
   then bif t11
    then k (t14, t17)
    else n
   else n
def cong_Add.c {γ : Type} (n : γ) (k : Int × Int → γ) (a0 : Int) (a1 : Int) (b0 : Int) (b1 : Int) (c : Bool) : γ := let t1 := cong_Norm a0 a1; let t2 := cong_alone t1.fst t1.snd; let t3 := cong_Norm b0 b1; let t4 := cong_alone t3.fst t3.snd; let t5 := IntKind.i64.wrap t1.snd; let t6 := IntKind.i64.wrap t3.snd; let t7 := word_Add t5 t6; let t8 := cong_Const t7; let t9 := word_Gcd.g 0 t1.fst; let t10 := word_Gcd 0 t1.fst; let t11 := word_Gcd.g t10 t3.fst; let t12 := word_Gcd t10 t3.fst; let t13 := cong_two t12; let t14 := bif !c then t13 else t12; let t15 := cong_rest t1.fst t1.snd t14; let t16 := cong_rest t3.fst t3.snd t14; let t17 := cong_plus t15 t16 t14; cong_Add.c0 n k a0 a1 b0 b1 c t1 t2 t3 t4 t5 t6 t7 t8 t9 t10 t11 t12 t13 t14 t15 t16 t17
def cong_Add.ok (a0 : Int) (a1 : Int) (b0 : Int) (b1 : Int) (c : Bool) : Bool := cong_Add.c false (fun _ => true) a0 a1 b0 b1 c
def cong_Add (a0 : Int) (a1 : Int) (b0 : Int) (b1 : Int) (c : Bool) : Int × Int := cong_Add.c (0, 0) id a0 a1 b0 b1 c
def cong_Add.F : FV := mkF (cP (cA (cP (cI .u64) (cP (cI .u64) cU))) (cP (cA (cP (cI .u64) (cP (cI .u64) cU))) (cP cB cU))) (fun | ((a0, (a1, ())), ((b0, (b1, ())), (c, ()))) => cong_Add.ok a0 a1 b0 b1 c) (fun | ((a0, (a1, ())), ((b0, (b1, ())), (c, ()))) => .agg #[.int .u64 (cong_Add a0 a1 b0 b1 c).1, .int .u64 (cong_Add a0 a1 b0 b1 c).2])
def L_cong_Add : TL := (28, cong_Add.F) :: L_cong_Neg
theorem cong_Add.p0 {γ : Type} (k : Int × Int → γ) (a0 : Int) (a1 : Int) (b0 : Int) (b1 : Int) (c : Bool) (t1 : Int × Int) (t2 : Bool) (t3 : Int × Int) (t4 : Bool) (t5 : Int) (t6 : Int) (t7 : Int) (t8 : Int × Int) (t9 : Bool) (t10 : Int) (t11 : Bool) (t12 : Int) (t13 : Int) (t14 : Int) (t15 : Int) (t16 : Int) (t17 : Int) : cong_Add.c0 false (fun _ => true) a0 a1 b0 b1 c t1 t2 t3 t4 t5 t6 t7 t8 t9 t10 t11 t12 t13 t14 t15 t16 t17 = true → cong_Add.c0 none (fun q => some (k q)) a0 a1 b0 b1 c t1 t2 t3 t4 t5 t6 t7 t8 t9 t10 t11 t12 t13 t14 t15 t16 t17 = some (k (cong_Add.c0 (0, 0) id a0 a1 b0 b1 c t1 t2 t3 t4 t5 t6 t7 t8 t9 t10 t11 t12 t13 t14 t15 t16 t17)) := by
  unfold cong_Add.c0; (repeat' (first | (apply pn k) | (exact pn_none _ _) | (exact pn_leaf k _)))
theorem cong_Add.p {γ : Type} (k : Int × Int → γ) (a0 : Int) (a1 : Int) (b0 : Int) (b1 : Int) (c : Bool) (h : cong_Add.ok a0 a1 b0 b1 c = true) : cong_Add.c none (fun q => some (k q)) a0 a1 b0 b1 c = some (k (cong_Add a0 a1 b0 b1 c)) :=
  let t1 := cong_Norm a0 a1; let t2 := cong_alone t1.fst t1.snd; let t3 := cong_Norm b0 b1; let t4 := cong_alone t3.fst t3.snd; let t5 := IntKind.i64.wrap t1.snd; let t6 := IntKind.i64.wrap t3.snd; let t7 := word_Add t5 t6; let t8 := cong_Const t7; let t9 := word_Gcd.g 0 t1.fst; let t10 := word_Gcd 0 t1.fst; let t11 := word_Gcd.g t10 t3.fst; let t12 := word_Gcd t10 t3.fst; let t13 := cong_two t12; let t14 := bif !c then t13 else t12; let t15 := cong_rest t1.fst t1.snd t14; let t16 := cong_rest t3.fst t3.snd t14; let t17 := cong_plus t15 t16 t14; cong_Add.p0 k a0 a1 b0 b1 c t1 t2 t3 t4 t5 t6 t7 t8 t9 t10 t11 t12 t13 t14 t15 t16 t17 h
theorem cong_Add.r (a0 : Int) (a1 : Int) (b0 : Int) (b1 : Int) (c : Bool) : runF P GS (tab L_cong_Neg) { merge := true } 60 Tryd.f28 [.agg #[.int .u64 a0, .int .u64 a1], .agg #[.int .u64 b0, .int .u64 b1], .bool c] = cong_Add.c none (fun q => some (.agg #[.int .u64 (q).1, .int .u64 (q).2] : Value)) a0 a1 b0 b1 c := by kernel_rfl
theorem cong_Add.t : TabOK P GS (tab L_cong_Add) :=
  TabOK_mk CS cong_Neg.t Tryd.func28 (by kernel_rfl) true 60 (by
    rintro ⟨⟨a0, ⟨a1, ⟨⟩⟩⟩, ⟨⟨b0, ⟨b1, ⟨⟩⟩⟩, ⟨c, ⟨⟩⟩⟩⟩ h
    exact (cong_Add.r a0 a1 b0 b1 c).trans (cong_Add.p (fun q => (.agg #[.int .u64 (q).1, .int .u64 (q).2] : Value)) a0 a1 b0 b1 c h))

def cong_Sub.c0 {γ : Type} (n : γ) (k : Int × Int → γ) (a0 : Int) (a1 : Int) (b0 : Int) (b1 : Int) (c : Bool) (t1 : Int × Int) (t2 : Bool) (t3 : Int × Int) (t4 : Bool) (t5 : Int) (t6 : Int) (t7 : Int) (t8 : Int × Int) (t9 : Bool) (t10 : Int) (t11 : Bool) (t12 : Int) (t13 : Int) (t14 : Int) (t15 : Int) (t16 : Int) (t17 : Int) : γ := bif t2
  then bif t4
   then k (t8.fst, t8.snd)
   else bif t9
    then bif t11
     then k (t14, t17)
     else n
    else n
  else bif t9
   then bif t11
    then k (t14, t17)
    else n
   else n
def cong_Sub.c {γ : Type} (n : γ) (k : Int × Int → γ) (a0 : Int) (a1 : Int) (b0 : Int) (b1 : Int) (c : Bool) : γ := let t1 := cong_Norm a0 a1; let t2 := cong_alone t1.fst t1.snd; let t3 := cong_Norm b0 b1; let t4 := cong_alone t3.fst t3.snd; let t5 := IntKind.i64.wrap t1.snd; let t6 := IntKind.i64.wrap t3.snd; let t7 := word_Sub t5 t6; let t8 := cong_Const t7; let t9 := word_Gcd.g 0 t1.fst; let t10 := word_Gcd 0 t1.fst; let t11 := word_Gcd.g t10 t3.fst; let t12 := word_Gcd t10 t3.fst; let t13 := cong_two t12; let t14 := bif !c then t13 else t12; let t15 := cong_rest t1.fst t1.snd t14; let t16 := cong_rest t3.fst t3.snd t14; let t17 := cong_minus t15 t16 t14; cong_Sub.c0 n k a0 a1 b0 b1 c t1 t2 t3 t4 t5 t6 t7 t8 t9 t10 t11 t12 t13 t14 t15 t16 t17
def cong_Sub.ok (a0 : Int) (a1 : Int) (b0 : Int) (b1 : Int) (c : Bool) : Bool := cong_Sub.c false (fun _ => true) a0 a1 b0 b1 c
def cong_Sub (a0 : Int) (a1 : Int) (b0 : Int) (b1 : Int) (c : Bool) : Int × Int := cong_Sub.c (0, 0) id a0 a1 b0 b1 c
def cong_Sub.F : FV := mkF (cP (cA (cP (cI .u64) (cP (cI .u64) cU))) (cP (cA (cP (cI .u64) (cP (cI .u64) cU))) (cP cB cU))) (fun | ((a0, (a1, ())), ((b0, (b1, ())), (c, ()))) => cong_Sub.ok a0 a1 b0 b1 c) (fun | ((a0, (a1, ())), ((b0, (b1, ())), (c, ()))) => .agg #[.int .u64 (cong_Sub a0 a1 b0 b1 c).1, .int .u64 (cong_Sub a0 a1 b0 b1 c).2])
def L_cong_Sub : TL := (30, cong_Sub.F) :: L_cong_Add
theorem cong_Sub.p0 {γ : Type} (k : Int × Int → γ) (a0 : Int) (a1 : Int) (b0 : Int) (b1 : Int) (c : Bool) (t1 : Int × Int) (t2 : Bool) (t3 : Int × Int) (t4 : Bool) (t5 : Int) (t6 : Int) (t7 : Int) (t8 : Int × Int) (t9 : Bool) (t10 : Int) (t11 : Bool) (t12 : Int) (t13 : Int) (t14 : Int) (t15 : Int) (t16 : Int) (t17 : Int) : cong_Sub.c0 false (fun _ => true) a0 a1 b0 b1 c t1 t2 t3 t4 t5 t6 t7 t8 t9 t10 t11 t12 t13 t14 t15 t16 t17 = true → cong_Sub.c0 none (fun q => some (k q)) a0 a1 b0 b1 c t1 t2 t3 t4 t5 t6 t7 t8 t9 t10 t11 t12 t13 t14 t15 t16 t17 = some (k (cong_Sub.c0 (0, 0) id a0 a1 b0 b1 c t1 t2 t3 t4 t5 t6 t7 t8 t9 t10 t11 t12 t13 t14 t15 t16 t17)) := by
  unfold cong_Sub.c0; (repeat' (first | (apply pn k) | (exact pn_none _ _) | (exact pn_leaf k _)))
theorem cong_Sub.p {γ : Type} (k : Int × Int → γ) (a0 : Int) (a1 : Int) (b0 : Int) (b1 : Int) (c : Bool) (h : cong_Sub.ok a0 a1 b0 b1 c = true) : cong_Sub.c none (fun q => some (k q)) a0 a1 b0 b1 c = some (k (cong_Sub a0 a1 b0 b1 c)) :=
  let t1 := cong_Norm a0 a1; let t2 := cong_alone t1.fst t1.snd; let t3 := cong_Norm b0 b1; let t4 := cong_alone t3.fst t3.snd; let t5 := IntKind.i64.wrap t1.snd; let t6 := IntKind.i64.wrap t3.snd; let t7 := word_Sub t5 t6; let t8 := cong_Const t7; let t9 := word_Gcd.g 0 t1.fst; let t10 := word_Gcd 0 t1.fst; let t11 := word_Gcd.g t10 t3.fst; let t12 := word_Gcd t10 t3.fst; let t13 := cong_two t12; let t14 := bif !c then t13 else t12; let t15 := cong_rest t1.fst t1.snd t14; let t16 := cong_rest t3.fst t3.snd t14; let t17 := cong_minus t15 t16 t14; cong_Sub.p0 k a0 a1 b0 b1 c t1 t2 t3 t4 t5 t6 t7 t8 t9 t10 t11 t12 t13 t14 t15 t16 t17 h
theorem cong_Sub.r (a0 : Int) (a1 : Int) (b0 : Int) (b1 : Int) (c : Bool) : runF P GS (tab L_cong_Add) { merge := true } 60 Tryd.f30 [.agg #[.int .u64 a0, .int .u64 a1], .agg #[.int .u64 b0, .int .u64 b1], .bool c] = cong_Sub.c none (fun q => some (.agg #[.int .u64 (q).1, .int .u64 (q).2] : Value)) a0 a1 b0 b1 c := by kernel_rfl
theorem cong_Sub.t : TabOK P GS (tab L_cong_Sub) :=
  TabOK_mk CS cong_Add.t Tryd.func30 (by kernel_rfl) true 60 (by
    rintro ⟨⟨a0, ⟨a1, ⟨⟩⟩⟩, ⟨⟨b0, ⟨b1, ⟨⟩⟩⟩, ⟨c, ⟨⟩⟩⟩⟩ h
    exact (cong_Sub.r a0 a1 b0 b1 c).trans (cong_Sub.p (fun q => (.agg #[.int .u64 (q).1, .int .u64 (q).2] : Value)) a0 a1 b0 b1 c h))

def cong_Meet0.c0 {γ : Type} (k : Int × Int × Bool → γ) (a1 : Int) (b0 : Int) (b1 : Int) (t1 : Int × Int) (t2 : Int × Int) (t3 : Int) (t4 : Bool) : γ := bif t4
  then k (t2.fst, t2.snd, true)
  else k (0, 0, false)
def cong_Meet0.c {γ : Type} (k : Int × Int × Bool → γ) (a1 : Int) (b0 : Int) (b1 : Int) : γ := let t1 := cong_Norm b0 b1; let t2 := cong_Norm 0 a1; let t3 := IntKind.i64.wrap t2.snd; let t4 := cong_Has t1.fst t1.snd t3; cong_Meet0.c0 k a1 b0 b1 t1 t2 t3 t4
def cong_Meet0 (a1 : Int) (b0 : Int) (b1 : Int) : Int × Int × Bool := cong_Meet0.c id a1 b0 b1
def cong_Meet0.F : FV := mkF (cP (cA (cP (cI .u64) (cP (cI .u64) cU))) (cP (cA (cP (cI .u64) (cP (cI .u64) cU))) cU)) (fun | ((a0, (a1, ())), ((b0, (b1, ())), ())) => decide (a0 = 0) && true) (fun | ((a0, (a1, ())), ((b0, (b1, ())), ())) => .tuple #[.agg #[.int .u64 (cong_Meet0 a1 b0 b1).1, .int .u64 (cong_Meet0 a1 b0 b1).2.1], .bool (cong_Meet0 a1 b0 b1).2.2])
def L_cong_Meet0 : TL := (9, cong_Meet0.F) :: L_cong_Sub
theorem cong_Meet0.p0 {γ : Type} (k : Int × Int × Bool → γ) (a1 : Int) (b0 : Int) (b1 : Int) (t1 : Int × Int) (t2 : Int × Int) (t3 : Int) (t4 : Bool) : cong_Meet0.c0 k a1 b0 b1 t1 t2 t3 t4 = k (cong_Meet0.c0 id a1 b0 b1 t1 t2 t3 t4) := by
  unfold cong_Meet0.c0; (repeat' (first | (apply pc k) | (exact rfl)))
theorem cong_Meet0.p {γ : Type} (k : Int × Int × Bool → γ) (a1 : Int) (b0 : Int) (b1 : Int) : cong_Meet0.c k a1 b0 b1 = k (cong_Meet0 a1 b0 b1) :=
  let t1 := cong_Norm b0 b1; let t2 := cong_Norm 0 a1; let t3 := IntKind.i64.wrap t2.snd; let t4 := cong_Has t1.fst t1.snd t3; cong_Meet0.p0 k a1 b0 b1 t1 t2 t3 t4
theorem cong_Meet0.r (a1 : Int) (b0 : Int) (b1 : Int) : runF P GS (tab L_cong_Sub) { merge := true } 60 Tryd.f9 [.agg #[.int .u64 0, .int .u64 a1], .agg #[.int .u64 b0, .int .u64 b1]] = cong_Meet0.c (fun q => some (.tuple #[.agg #[.int .u64 (q).1, .int .u64 (q).2.1], .bool (q).2.2] : Value)) a1 b0 b1 := by kernel_rfl
theorem cong_Meet0.t : TabOK P GS (tab L_cong_Meet0) :=
  TabOK_mk CS cong_Sub.t Tryd.func9 (by kernel_rfl) true 60 (by
    rintro ⟨⟨a0, ⟨a1, ⟨⟩⟩⟩, ⟨⟨b0, ⟨b1, ⟨⟩⟩⟩, ⟨⟩⟩⟩ h
    simp only [Bool.and_eq_true, decide_eq_true_eq] at h
    obtain ⟨rfl, h⟩ := h
    exact (cong_Meet0.r a1 b0 b1).trans (cong_Meet0.p (fun q => some (.tuple #[.agg #[.int .u64 (q).1, .int .u64 (q).2.1], .bool (q).2.2] : Value)) a1 b0 b1))

def cong_Meet.c0 {γ : Type} (n : γ) (k : Int × Int × Bool → γ) (a0 : Int) (a1 : Int) (b0 : Int) (b1 : Int) (t1 : Int × Int) (t2 : Bool) (t3 : Int × Int) (t4 : Int) (t5 : Bool) (t6 : Bool) (t7 : Int × Int × Bool) (t8 : Bool) (t9 : Int) (t10 : Bool) (t11 : Int) (t12 : Int) (t13 : Int) (t14 : Bool) (t15 : Int) (t16 : Int) (t17 : Int) (t18 : Int) (t19 : Int) (t20 : Int) (t21 : Int) (t22 : Bool) (t23 : Int × Int) (t24 : Int) (t25 : Int × Int) (t26 : Int × Int) (t27 : Int) (t28 : Int) (t29 : Int × Int) (t30 : Int) (t31 : Int × Int) (t32 : Int) (t33 : Int) (t34 : Int) (t35 : Int × Int) : γ := bif t2
  then bif t5
   then k (t1.fst, t1.snd, true)
   else k (0, 0, false)
  else bif t6
   then bif decide (t3.fst = 0) && true
    then k (t7.fst, t7.snd.fst, t7.snd.snd)
    else n
   else bif t8
    then bif t10
     then bif !decide (t11 = 0)
      then bif !decide (t11 = 0)
       then bif t1.snd.tmod t11 != t3.snd.tmod t11
        then k (0, 0, false)
        else bif !decide (t11 = 0)
         then bif !decide (t11 = 0)
          then bif !decide (t12 = 0)
           then bif !decide (t11 = 0)
            then bif t14
             then bif t22
              then bif t23.fst == 0
               then k (t23.snd, t26.fst, true)
               else bif t27 == 0
                then bif decide (t26.fst ≤ 9223372036854775807)
                 then k (t29.fst, t29.snd, true)
                 else bif t32 == 0
                  then bif decide (t31.fst ≤ 9223372036854775808)
                   then k (t35.fst, t35.snd, true)
                   else k (0, 0, false)
                  else k (0, 0, false)
                else bif t32 == 0
                 then bif decide (t31.fst ≤ 9223372036854775808)
                  then k (t35.fst, t35.snd, true)
                  else k (0, 0, false)
                 else k (0, 0, false)
              else n
             else n
            else n
           else n
          else n
         else n
       else n
      else n
     else n
    else n
def cong_Meet.c {γ : Type} (n : γ) (k : Int × Int × Bool → γ) (a0 : Int) (a1 : Int) (b0 : Int) (b1 : Int) : γ := let t1 := cong_Norm a0 a1; let t2 := cong_alone t1.fst t1.snd; let t3 := cong_Norm b0 b1; let t4 := IntKind.i64.wrap t1.snd; let t5 := cong_Has t3.fst t3.snd t4; let t6 := cong_alone t3.fst t3.snd; let t7 := cong_Meet0 t3.snd t1.fst t1.snd; let t8 := word_Gcd.g 0 t1.fst; let t9 := word_Gcd 0 t1.fst; let t10 := word_Gcd.g t9 t3.fst; let t11 := word_Gcd t9 t3.fst; let t12 := IntKind.u64.wrap (t3.fst.tdiv t11); let t13 := IntKind.u64.wrap (t1.fst.tdiv t11); let t14 := cong_inverse.g t13 t12; let t15 := if t3.snd > t1.snd then t3.snd else t1.snd; let t16 := if t3.snd < t1.snd then t3.snd else t1.snd; let t17 := IntKind.u64.wrap (t15 - t16); let t18 := IntKind.u64.wrap (t17.tdiv t11); let t19 := cong_minus 0 (t18.tmod t12) t12; let t20 := bif decide (t3.snd < t1.snd) then t19 else t18.tmod t12; let t21 := cong_inverse t13 t12; let t22 := cong_times.ok t20 t21 t12; let t23 := bits_Mul64 t12 t1.fst; let t24 := cong_times t20 t21 t12; let t25 := bits_Mul64 t24 t1.fst; let t26 := bits_Add64 t25.snd t1.snd 0; let t27 := IntKind.u64.wrap (t25.fst + t26.snd); let t28 := IntKind.i64.wrap t26.fst; let t29 := cong_Const t28; let t30 := IntKind.u64.wrap (t23.fst - t27); let t31 := bits_Sub64 t23.snd t26.fst 0; let t32 := IntKind.u64.wrap (t30 - t31.snd); let t33 := IntKind.u64.wrap (0 - t31.fst); let t34 := IntKind.i64.wrap t33; let t35 := cong_Const t34; cong_Meet.c0 n k a0 a1 b0 b1 t1 t2 t3 t4 t5 t6 t7 t8 t9 t10 t11 t12 t13 t14 t15 t16 t17 t18 t19 t20 t21 t22 t23 t24 t25 t26 t27 t28 t29 t30 t31 t32 t33 t34 t35
def cong_Meet.ok (a0 : Int) (a1 : Int) (b0 : Int) (b1 : Int) : Bool := cong_Meet.c false (fun _ => true) a0 a1 b0 b1
def cong_Meet (a0 : Int) (a1 : Int) (b0 : Int) (b1 : Int) : Int × Int × Bool := cong_Meet.c (0, 0, false) id a0 a1 b0 b1
def cong_Meet.F : FV := mkF (cP (cA (cP (cI .u64) (cP (cI .u64) cU))) (cP (cA (cP (cI .u64) (cP (cI .u64) cU))) cU)) (fun | ((a0, (a1, ())), ((b0, (b1, ())), ())) => cong_Meet.ok a0 a1 b0 b1) (fun | ((a0, (a1, ())), ((b0, (b1, ())), ())) => .tuple #[.agg #[.int .u64 (cong_Meet a0 a1 b0 b1).1, .int .u64 (cong_Meet a0 a1 b0 b1).2.1], .bool (cong_Meet a0 a1 b0 b1).2.2])
def L_cong_Meet : TL := (9, cong_Meet.F) :: L_cong_Meet0
theorem cong_Meet.p0 {γ : Type} (k : Int × Int × Bool → γ) (a0 : Int) (a1 : Int) (b0 : Int) (b1 : Int) (t1 : Int × Int) (t2 : Bool) (t3 : Int × Int) (t4 : Int) (t5 : Bool) (t6 : Bool) (t7 : Int × Int × Bool) (t8 : Bool) (t9 : Int) (t10 : Bool) (t11 : Int) (t12 : Int) (t13 : Int) (t14 : Bool) (t15 : Int) (t16 : Int) (t17 : Int) (t18 : Int) (t19 : Int) (t20 : Int) (t21 : Int) (t22 : Bool) (t23 : Int × Int) (t24 : Int) (t25 : Int × Int) (t26 : Int × Int) (t27 : Int) (t28 : Int) (t29 : Int × Int) (t30 : Int) (t31 : Int × Int) (t32 : Int) (t33 : Int) (t34 : Int) (t35 : Int × Int) : cong_Meet.c0 false (fun _ => true) a0 a1 b0 b1 t1 t2 t3 t4 t5 t6 t7 t8 t9 t10 t11 t12 t13 t14 t15 t16 t17 t18 t19 t20 t21 t22 t23 t24 t25 t26 t27 t28 t29 t30 t31 t32 t33 t34 t35 = true → cong_Meet.c0 none (fun q => some (k q)) a0 a1 b0 b1 t1 t2 t3 t4 t5 t6 t7 t8 t9 t10 t11 t12 t13 t14 t15 t16 t17 t18 t19 t20 t21 t22 t23 t24 t25 t26 t27 t28 t29 t30 t31 t32 t33 t34 t35 = some (k (cong_Meet.c0 (0, 0, false) id a0 a1 b0 b1 t1 t2 t3 t4 t5 t6 t7 t8 t9 t10 t11 t12 t13 t14 t15 t16 t17 t18 t19 t20 t21 t22 t23 t24 t25 t26 t27 t28 t29 t30 t31 t32 t33 t34 t35)) := by
  unfold cong_Meet.c0; (repeat' (first | (apply pn k) | (exact pn_none _ _) | (exact pn_leaf k _)))
theorem cong_Meet.p {γ : Type} (k : Int × Int × Bool → γ) (a0 : Int) (a1 : Int) (b0 : Int) (b1 : Int) (h : cong_Meet.ok a0 a1 b0 b1 = true) : cong_Meet.c none (fun q => some (k q)) a0 a1 b0 b1 = some (k (cong_Meet a0 a1 b0 b1)) :=
  let t1 := cong_Norm a0 a1; let t2 := cong_alone t1.fst t1.snd; let t3 := cong_Norm b0 b1; let t4 := IntKind.i64.wrap t1.snd; let t5 := cong_Has t3.fst t3.snd t4; let t6 := cong_alone t3.fst t3.snd; let t7 := cong_Meet0 t3.snd t1.fst t1.snd; let t8 := word_Gcd.g 0 t1.fst; let t9 := word_Gcd 0 t1.fst; let t10 := word_Gcd.g t9 t3.fst; let t11 := word_Gcd t9 t3.fst; let t12 := IntKind.u64.wrap (t3.fst.tdiv t11); let t13 := IntKind.u64.wrap (t1.fst.tdiv t11); let t14 := cong_inverse.g t13 t12; let t15 := if t3.snd > t1.snd then t3.snd else t1.snd; let t16 := if t3.snd < t1.snd then t3.snd else t1.snd; let t17 := IntKind.u64.wrap (t15 - t16); let t18 := IntKind.u64.wrap (t17.tdiv t11); let t19 := cong_minus 0 (t18.tmod t12) t12; let t20 := bif decide (t3.snd < t1.snd) then t19 else t18.tmod t12; let t21 := cong_inverse t13 t12; let t22 := cong_times.ok t20 t21 t12; let t23 := bits_Mul64 t12 t1.fst; let t24 := cong_times t20 t21 t12; let t25 := bits_Mul64 t24 t1.fst; let t26 := bits_Add64 t25.snd t1.snd 0; let t27 := IntKind.u64.wrap (t25.fst + t26.snd); let t28 := IntKind.i64.wrap t26.fst; let t29 := cong_Const t28; let t30 := IntKind.u64.wrap (t23.fst - t27); let t31 := bits_Sub64 t23.snd t26.fst 0; let t32 := IntKind.u64.wrap (t30 - t31.snd); let t33 := IntKind.u64.wrap (0 - t31.fst); let t34 := IntKind.i64.wrap t33; let t35 := cong_Const t34; cong_Meet.p0 k a0 a1 b0 b1 t1 t2 t3 t4 t5 t6 t7 t8 t9 t10 t11 t12 t13 t14 t15 t16 t17 t18 t19 t20 t21 t22 t23 t24 t25 t26 t27 t28 t29 t30 t31 t32 t33 t34 t35 h
theorem cong_Meet.r (a0 : Int) (a1 : Int) (b0 : Int) (b1 : Int) : runF P GS (tab L_cong_Meet0) { merge := true } 60 Tryd.f9 [.agg #[.int .u64 a0, .int .u64 a1], .agg #[.int .u64 b0, .int .u64 b1]] = cong_Meet.c none (fun q => some (.tuple #[.agg #[.int .u64 (q).1, .int .u64 (q).2.1], .bool (q).2.2] : Value)) a0 a1 b0 b1 := by kernel_rfl
theorem cong_Meet.t : TabOK P GS (tab L_cong_Meet) :=
  TabOK_mk CS cong_Meet0.t Tryd.func9 (by kernel_rfl) true 60 (by
    rintro ⟨⟨a0, ⟨a1, ⟨⟩⟩⟩, ⟨⟨b0, ⟨b1, ⟨⟩⟩⟩, ⟨⟩⟩⟩ h
    exact (cong_Meet.r a0 a1 b0 b1).trans (cong_Meet.p (fun q => (.tuple #[.agg #[.int .u64 (q).1, .int .u64 (q).2.1], .bool (q).2.2] : Value)) a0 a1 b0 b1 h))

end
end Go.Proofs.YtoggbmfjkcbilaaDoor.V
