/- What the functions of this seat compute, told by evaluation of their code. Conditions: none. -/
import Derived.Test.YtoggbmfjkcbilaaDoorE4
set_option linter.unusedVariables false
set_option linter.unusedSimpArgs false
namespace Go.Proofs.YtoggbmfjkcbilaaDoor.V
open Go Go.Wk
noncomputable section

def ref_Norm.c {γ : Type} (n : γ) (k : Int × Int → γ) (a0 : Int) (a1 : Int) : γ := bif decide (a0 > 0)
  then bif !decide (a0 = 0)
   then k (a0, a1.tmod a0)
   else n
  else k (a0, a1)
def ref_Norm.ok (a0 : Int) (a1 : Int) : Bool := ref_Norm.c false (fun _ => true) a0 a1
def ref_Norm (a0 : Int) (a1 : Int) : Int × Int := ref_Norm.c (0, 0) id a0 a1
def ref_Norm.F : FV := mkF (cP (cA (cP (cI .u64) (cP (cI .u64) cU))) cU) (fun _ => true) (fun | ((a0, (a1, ())), ()) => .agg #[.int .u64 (ref_Norm a0 a1).1, .int .u64 (ref_Norm a0 a1).2])
def L_ref_Norm : TL := (15, ref_Norm.F) :: L_ref_class
theorem ref_Norm.okt (a0 : Int) (a1 : Int) : ref_Norm.ok a0 a1 = true := by
  unfold ref_Norm.ok ref_Norm.c; by_cases h : a0 = 0 <;> simp [h] <;> omega
theorem ref_Norm.p {γ : Type} (k : Int × Int → γ) (a0 : Int) (a1 : Int) (h : ref_Norm.ok a0 a1 = true) : ref_Norm.c none (fun q => some (k q)) a0 a1 = some (k (ref_Norm a0 a1)) := by
  revert h; unfold ref_Norm ref_Norm.ok ref_Norm.c; (repeat' (first | (apply pn k) | (exact pn_none _ _) | (exact pn_leaf k _)))
theorem ref_Norm.r (a0 : Int) (a1 : Int) : runF P GS (tab L_ref_class) { merge := true } 60 Tryd.f15 [.agg #[.int .u64 a0, .int .u64 a1]] = ref_Norm.c none (fun q => some (.agg #[.int .u64 (q).1, .int .u64 (q).2] : Value)) a0 a1 := by kernel_rfl
theorem ref_Norm.t : TabOK P GS (tab L_ref_Norm) :=
  TabOK_mk CS ref_class.t Tryd.func15 (by kernel_rfl) true 60 (by
    rintro ⟨⟨a0, ⟨a1, ⟨⟩⟩⟩, ⟨⟩⟩ h
    exact (ref_Norm.r a0 a1).trans (ref_Norm.p (fun q => (.agg #[.int .u64 (q).1, .int .u64 (q).2] : Value)) a0 a1 (ref_Norm.okt a0 a1)))

def ref_Const.c0 {γ : Type} (k : Int × Int → γ) (a : Int) (t1 : Int) : γ := k (0, t1)
def ref_Const.c {γ : Type} (k : Int × Int → γ) (a : Int) : γ := let t1 := IntKind.u64.wrap a; ref_Const.c0 k a t1
def ref_Const (a : Int) : Int × Int := ref_Const.c id a
def ref_Const.F : FV := mkF (cP (cI .i64) cU) (fun _ => true) (fun | (a, ()) => .agg #[.int .u64 (ref_Const a).1, .int .u64 (ref_Const a).2])
def L_ref_Const : TL := (17, ref_Const.F) :: L_ref_Norm
theorem ref_Const.p0 {γ : Type} (k : Int × Int → γ) (a : Int) (t1 : Int) : ref_Const.c0 k a t1 = k (ref_Const.c0 id a t1) := by
  unfold ref_Const.c0; (repeat' (first | (apply pc k) | (exact rfl)))
theorem ref_Const.p {γ : Type} (k : Int × Int → γ) (a : Int) : ref_Const.c k a = k (ref_Const a) :=
  let t1 := IntKind.u64.wrap a; ref_Const.p0 k a t1
theorem ref_Const.r (a : Int) : runF P GS (tab L_ref_Norm) { merge := true } 60 Tryd.f17 [.int .i64 a] = ref_Const.c (fun q => some (.agg #[.int .u64 (q).1, .int .u64 (q).2] : Value)) a := by kernel_rfl
theorem ref_Const.t : TabOK P GS (tab L_ref_Const) :=
  TabOK_mk CS ref_Norm.t Tryd.func17 (by kernel_rfl) true 60 (by
    rintro ⟨a, ⟨⟩⟩ h
    exact (ref_Const.r a).trans (ref_Const.p (fun q => some (.agg #[.int .u64 (q).1, .int .u64 (q).2] : Value)) a))

def ref_Leq.c0 {γ : Type} (n : γ) (k : Bool → γ) (a0 : Int) (a1 : Int) (b0 : Int) (b1 : Int) (t1 : Bool) (t2 : Int × Int × Bool) (t3 : Int × Int) (t4 : Bool) (t5 : Bool) (t6 : Int × Int × Bool) (t7 : Bool) (t8 : Int × Int) (t9 : Int × Int) : γ := bif b0 == 0
  then bif a0 == 0
   then k (a1 == b1)
   else k (false)
  else bif !decide (b0 = 0)
   then bif a0.tmod b0 == 0
    then bif t1
     then bif t4
      then bif t5
       then bif t7
        then k (t8.fst == t9.fst && (t8.snd == t9.snd && true))
        else n
       else n
      else n
     else n
    else k (false)
   else n
def ref_Leq.c {γ : Type} (n : γ) (k : Bool → γ) (a0 : Int) (a1 : Int) (b0 : Int) (b1 : Int) : γ := let t1 := ref_r.ok a0 a1; let t2 := ref_r a0 a1; let t3 := ref_of b0; let t4 := ref_rest.ok t2.fst t2.snd.fst t2.snd.snd t3.fst t3.snd; let t5 := ref_r.ok b0 b1; let t6 := ref_r b0 b1; let t7 := ref_rest.ok t6.fst t6.snd.fst t6.snd.snd t3.fst t3.snd; let t8 := ref_rest t2.fst t2.snd.fst t2.snd.snd t3.fst t3.snd; let t9 := ref_rest t6.fst t6.snd.fst t6.snd.snd t3.fst t3.snd; ref_Leq.c0 n k a0 a1 b0 b1 t1 t2 t3 t4 t5 t6 t7 t8 t9
def ref_Leq.ok (a0 : Int) (a1 : Int) (b0 : Int) (b1 : Int) : Bool := ref_Leq.c false (fun _ => true) a0 a1 b0 b1
def ref_Leq (a0 : Int) (a1 : Int) (b0 : Int) (b1 : Int) : Bool := ref_Leq.c (false) id a0 a1 b0 b1
def ref_Leq.F : FV := mkF (cP (cA (cP (cI .u64) (cP (cI .u64) cU))) (cP (cA (cP (cI .u64) (cP (cI .u64) cU))) cU)) (fun | ((a0, (a1, ())), ((b0, (b1, ())), ())) => ref_Leq.ok a0 a1 b0 b1) (fun | ((a0, (a1, ())), ((b0, (b1, ())), ())) => .bool (ref_Leq a0 a1 b0 b1))
def L_ref_Leq : TL := (19, ref_Leq.F) :: L_ref_Const
theorem ref_Leq.p0 {γ : Type} (k : Bool → γ) (a0 : Int) (a1 : Int) (b0 : Int) (b1 : Int) (t1 : Bool) (t2 : Int × Int × Bool) (t3 : Int × Int) (t4 : Bool) (t5 : Bool) (t6 : Int × Int × Bool) (t7 : Bool) (t8 : Int × Int) (t9 : Int × Int) : ref_Leq.c0 false (fun _ => true) a0 a1 b0 b1 t1 t2 t3 t4 t5 t6 t7 t8 t9 = true → ref_Leq.c0 none (fun q => some (k q)) a0 a1 b0 b1 t1 t2 t3 t4 t5 t6 t7 t8 t9 = some (k (ref_Leq.c0 (false) id a0 a1 b0 b1 t1 t2 t3 t4 t5 t6 t7 t8 t9)) := by
  unfold ref_Leq.c0; (repeat' (first | (apply pn k) | (exact pn_none _ _) | (exact pn_leaf k _)))
theorem ref_Leq.p {γ : Type} (k : Bool → γ) (a0 : Int) (a1 : Int) (b0 : Int) (b1 : Int) (h : ref_Leq.ok a0 a1 b0 b1 = true) : ref_Leq.c none (fun q => some (k q)) a0 a1 b0 b1 = some (k (ref_Leq a0 a1 b0 b1)) :=
  let t1 := ref_r.ok a0 a1; let t2 := ref_r a0 a1; let t3 := ref_of b0; let t4 := ref_rest.ok t2.fst t2.snd.fst t2.snd.snd t3.fst t3.snd; let t5 := ref_r.ok b0 b1; let t6 := ref_r b0 b1; let t7 := ref_rest.ok t6.fst t6.snd.fst t6.snd.snd t3.fst t3.snd; let t8 := ref_rest t2.fst t2.snd.fst t2.snd.snd t3.fst t3.snd; let t9 := ref_rest t6.fst t6.snd.fst t6.snd.snd t3.fst t3.snd; ref_Leq.p0 k a0 a1 b0 b1 t1 t2 t3 t4 t5 t6 t7 t8 t9 h
theorem ref_Leq.r (a0 : Int) (a1 : Int) (b0 : Int) (b1 : Int) : runF P GS (tab L_ref_Const) { merge := true } 60 Tryd.f19 [.agg #[.int .u64 a0, .int .u64 a1], .agg #[.int .u64 b0, .int .u64 b1]] = ref_Leq.c none (fun q => some (.bool (q) : Value)) a0 a1 b0 b1 := by kernel_rfl
theorem ref_Leq.t : TabOK P GS (tab L_ref_Leq) :=
  TabOK_mk CS ref_Const.t Tryd.func19 (by kernel_rfl) true 60 (by
    rintro ⟨⟨a0, ⟨a1, ⟨⟩⟩⟩, ⟨⟨b0, ⟨b1, ⟨⟩⟩⟩, ⟨⟩⟩⟩ h
    exact (ref_Leq.r a0 a1 b0 b1).trans (ref_Leq.p (fun q => (.bool (q) : Value)) a0 a1 b0 b1 h))

def ref_Has.c0 {γ : Type} (n : γ) (k : Bool → γ) (a0 : Int) (a1 : Int) (b : Int) (t1 : Int × Int) (t2 : Bool) (t3 : Bool) : γ := bif t2
  then k (t3)
  else n
def ref_Has.c {γ : Type} (n : γ) (k : Bool → γ) (a0 : Int) (a1 : Int) (b : Int) : γ := let t1 := ref_Const b; let t2 := ref_Leq.ok t1.fst t1.snd a0 a1; let t3 := ref_Leq t1.fst t1.snd a0 a1; ref_Has.c0 n k a0 a1 b t1 t2 t3
def ref_Has.ok (a0 : Int) (a1 : Int) (b : Int) : Bool := ref_Has.c false (fun _ => true) a0 a1 b
def ref_Has (a0 : Int) (a1 : Int) (b : Int) : Bool := ref_Has.c (false) id a0 a1 b
def ref_Has.F : FV := mkF (cP (cA (cP (cI .u64) (cP (cI .u64) cU))) (cP (cI .i64) cU)) (fun | ((a0, (a1, ())), (b, ())) => ref_Has.ok a0 a1 b) (fun | ((a0, (a1, ())), (b, ())) => .bool (ref_Has a0 a1 b))
def L_ref_Has : TL := (18, ref_Has.F) :: L_ref_Leq
theorem ref_Has.p0 {γ : Type} (k : Bool → γ) (a0 : Int) (a1 : Int) (b : Int) (t1 : Int × Int) (t2 : Bool) (t3 : Bool) : ref_Has.c0 false (fun _ => true) a0 a1 b t1 t2 t3 = true → ref_Has.c0 none (fun q => some (k q)) a0 a1 b t1 t2 t3 = some (k (ref_Has.c0 (false) id a0 a1 b t1 t2 t3)) := by
  unfold ref_Has.c0; (repeat' (first | (apply pn k) | (exact pn_none _ _) | (exact pn_leaf k _)))
theorem ref_Has.p {γ : Type} (k : Bool → γ) (a0 : Int) (a1 : Int) (b : Int) (h : ref_Has.ok a0 a1 b = true) : ref_Has.c none (fun q => some (k q)) a0 a1 b = some (k (ref_Has a0 a1 b)) :=
  let t1 := ref_Const b; let t2 := ref_Leq.ok t1.fst t1.snd a0 a1; let t3 := ref_Leq t1.fst t1.snd a0 a1; ref_Has.p0 k a0 a1 b t1 t2 t3 h
theorem ref_Has.r (a0 : Int) (a1 : Int) (b : Int) : runF P GS (tab L_ref_Leq) { merge := true } 60 Tryd.f18 [.agg #[.int .u64 a0, .int .u64 a1], .int .i64 b] = ref_Has.c none (fun q => some (.bool (q) : Value)) a0 a1 b := by kernel_rfl
theorem ref_Has.t : TabOK P GS (tab L_ref_Has) :=
  TabOK_mk CS ref_Leq.t Tryd.func18 (by kernel_rfl) true 60 (by
    rintro ⟨⟨a0, ⟨a1, ⟨⟩⟩⟩, ⟨b, ⟨⟩⟩⟩ h
    exact (ref_Has.r a0 a1 b).trans (ref_Has.p (fun q => (.bool (q) : Value)) a0 a1 b h))

def ref_apart.c0 {γ : Type} (k : Int × Int → γ) (a0 : Int) (a1 : Int) (a2 : Bool) (b0 : Int) (b1 : Int) (b2 : Bool) (t1 : Bool) (t2 : Int × Int) (t3 : Int × Int) (t4 : Int × Int) (t5 : Int × Int) : γ := bif a2 == b2
  then bif t1
   then k (t2.fst, t2.snd)
   else k (t3.fst, t3.snd)
  else k (t5.fst, t5.snd)
def ref_apart.c {γ : Type} (k : Int × Int → γ) (a0 : Int) (a1 : Int) (a2 : Bool) (b0 : Int) (b1 : Int) (b2 : Bool) : γ := let t1 := ref_less a0 a1 b0 b1; let t2 := ref_minus b0 b1 a0 a1; let t3 := ref_minus a0 a1 b0 b1; let t4 := ref_minus 0 0 b0 b1; let t5 := ref_minus a0 a1 t4.fst t4.snd; ref_apart.c0 k a0 a1 a2 b0 b1 b2 t1 t2 t3 t4 t5
def ref_apart (a0 : Int) (a1 : Int) (a2 : Bool) (b0 : Int) (b1 : Int) (b2 : Bool) : Int × Int := ref_apart.c id a0 a1 a2 b0 b1 b2
def ref_apart.F : FV := mkF (cP (cA (cP (cI .u64) (cP (cI .u64) (cP cB cU)))) (cP (cA (cP (cI .u64) (cP (cI .u64) (cP cB cU)))) cU)) (fun _ => true) (fun | ((a0, (a1, (a2, ()))), ((b0, (b1, (b2, ()))), ())) => .agg #[.int .u64 (ref_apart a0 a1 a2 b0 b1 b2).1, .int .u64 (ref_apart a0 a1 a2 b0 b1 b2).2])
def L_ref_apart : TL := (55, ref_apart.F) :: L_ref_Has
theorem ref_apart.p0 {γ : Type} (k : Int × Int → γ) (a0 : Int) (a1 : Int) (a2 : Bool) (b0 : Int) (b1 : Int) (b2 : Bool) (t1 : Bool) (t2 : Int × Int) (t3 : Int × Int) (t4 : Int × Int) (t5 : Int × Int) : ref_apart.c0 k a0 a1 a2 b0 b1 b2 t1 t2 t3 t4 t5 = k (ref_apart.c0 id a0 a1 a2 b0 b1 b2 t1 t2 t3 t4 t5) := by
  unfold ref_apart.c0; (repeat' (first | (apply pc k) | (exact rfl)))
theorem ref_apart.p {γ : Type} (k : Int × Int → γ) (a0 : Int) (a1 : Int) (a2 : Bool) (b0 : Int) (b1 : Int) (b2 : Bool) : ref_apart.c k a0 a1 a2 b0 b1 b2 = k (ref_apart a0 a1 a2 b0 b1 b2) :=
  let t1 := ref_less a0 a1 b0 b1; let t2 := ref_minus b0 b1 a0 a1; let t3 := ref_minus a0 a1 b0 b1; let t4 := ref_minus 0 0 b0 b1; let t5 := ref_minus a0 a1 t4.fst t4.snd; ref_apart.p0 k a0 a1 a2 b0 b1 b2 t1 t2 t3 t4 t5
theorem ref_apart.r (a0 : Int) (a1 : Int) (a2 : Bool) (b0 : Int) (b1 : Int) (b2 : Bool) : runF P GS (tab L_ref_Has) { merge := true } 60 Tryd.f55 [.agg #[.int .u64 a0, .int .u64 a1, .bool a2], .agg #[.int .u64 b0, .int .u64 b1, .bool b2]] = ref_apart.c (fun q => some (.agg #[.int .u64 (q).1, .int .u64 (q).2] : Value)) a0 a1 a2 b0 b1 b2 := by kernel_rfl
theorem ref_apart.t : TabOK P GS (tab L_ref_apart) :=
  TabOK_mk CS ref_Has.t Tryd.func55 (by kernel_rfl) true 60 (by
    rintro ⟨⟨a0, ⟨a1, ⟨a2, ⟨⟩⟩⟩⟩, ⟨⟨b0, ⟨b1, ⟨b2, ⟨⟩⟩⟩⟩, ⟨⟩⟩⟩ h
    exact (ref_apart.r a0 a1 a2 b0 b1 b2).trans (ref_apart.p (fun q => some (.agg #[.int .u64 (q).1, .int .u64 (q).2] : Value)) a0 a1 a2 b0 b1 b2))

def ref_Join.c0 {γ : Type} (n : γ) (k : Int × Int → γ) (a0 : Int) (a1 : Int) (b0 : Int) (b1 : Int) (t1 : Int × Int) (t2 : Int × Int) (t3 : Bool) (t4 : Bool) (t5 : Bool) (t6 : Int × Int) (t7 : Int × Int × Bool) (t8 : Int × Int × Bool) (t9 : Int × Int) (t10 : Bool) (t11 : Int × Int) (t12 : Int × Int) (t13 : Bool) (t14 : Int × Int) : γ := bif t3
  then bif t4
   then bif t5
    then bif t10
     then bif t11.fst == 0 && (t11.snd == 0 && true)
      then k (t12.fst, t12.snd)
      else bif t4
       then bif t13
        then k (t14.fst, t14.snd)
        else n
       else n
     else n
    else n
   else n
  else n
def ref_Join.c {γ : Type} (n : γ) (k : Int × Int → γ) (a0 : Int) (a1 : Int) (b0 : Int) (b1 : Int) : γ := let t1 := ref_of a0; let t2 := ref_of b0; let t3 := ref_gcd.g t1.fst t1.snd t2.fst t2.snd; let t4 := ref_r.ok a0 a1; let t5 := ref_r.ok b0 b1; let t6 := ref_gcd t1.fst t1.snd t2.fst t2.snd; let t7 := ref_r a0 a1; let t8 := ref_r b0 b1; let t9 := ref_apart t7.fst t7.snd.fst t7.snd.snd t8.fst t8.snd.fst t8.snd.snd; let t10 := ref_gcd.g t6.fst t6.snd t9.fst t9.snd; let t11 := ref_gcd t6.fst t6.snd t9.fst t9.snd; let t12 := ref_Norm a0 a1; let t13 := ref_class.ok t7.fst t7.snd.fst t7.snd.snd t11.snd; let t14 := ref_class t7.fst t7.snd.fst t7.snd.snd t11.snd; ref_Join.c0 n k a0 a1 b0 b1 t1 t2 t3 t4 t5 t6 t7 t8 t9 t10 t11 t12 t13 t14
def ref_Join.ok (a0 : Int) (a1 : Int) (b0 : Int) (b1 : Int) : Bool := ref_Join.c false (fun _ => true) a0 a1 b0 b1
def ref_Join (a0 : Int) (a1 : Int) (b0 : Int) (b1 : Int) : Int × Int := ref_Join.c (0, 0) id a0 a1 b0 b1
def ref_Join.F : FV := mkF (cP (cA (cP (cI .u64) (cP (cI .u64) cU))) (cP (cA (cP (cI .u64) (cP (cI .u64) cU))) cU)) (fun | ((a0, (a1, ())), ((b0, (b1, ())), ())) => ref_Join.ok a0 a1 b0 b1) (fun | ((a0, (a1, ())), ((b0, (b1, ())), ())) => .agg #[.int .u64 (ref_Join a0 a1 b0 b1).1, .int .u64 (ref_Join a0 a1 b0 b1).2])
def L_ref_Join : TL := (20, ref_Join.F) :: L_ref_apart
theorem ref_Join.p0 {γ : Type} (k : Int × Int → γ) (a0 : Int) (a1 : Int) (b0 : Int) (b1 : Int) (t1 : Int × Int) (t2 : Int × Int) (t3 : Bool) (t4 : Bool) (t5 : Bool) (t6 : Int × Int) (t7 : Int × Int × Bool) (t8 : Int × Int × Bool) (t9 : Int × Int) (t10 : Bool) (t11 : Int × Int) (t12 : Int × Int) (t13 : Bool) (t14 : Int × Int) : ref_Join.c0 false (fun _ => true) a0 a1 b0 b1 t1 t2 t3 t4 t5 t6 t7 t8 t9 t10 t11 t12 t13 t14 = true → ref_Join.c0 none (fun q => some (k q)) a0 a1 b0 b1 t1 t2 t3 t4 t5 t6 t7 t8 t9 t10 t11 t12 t13 t14 = some (k (ref_Join.c0 (0, 0) id a0 a1 b0 b1 t1 t2 t3 t4 t5 t6 t7 t8 t9 t10 t11 t12 t13 t14)) := by
  unfold ref_Join.c0; (repeat' (first | (apply pn k) | (exact pn_none _ _) | (exact pn_leaf k _)))
theorem ref_Join.p {γ : Type} (k : Int × Int → γ) (a0 : Int) (a1 : Int) (b0 : Int) (b1 : Int) (h : ref_Join.ok a0 a1 b0 b1 = true) : ref_Join.c none (fun q => some (k q)) a0 a1 b0 b1 = some (k (ref_Join a0 a1 b0 b1)) :=
  let t1 := ref_of a0; let t2 := ref_of b0; let t3 := ref_gcd.g t1.fst t1.snd t2.fst t2.snd; let t4 := ref_r.ok a0 a1; let t5 := ref_r.ok b0 b1; let t6 := ref_gcd t1.fst t1.snd t2.fst t2.snd; let t7 := ref_r a0 a1; let t8 := ref_r b0 b1; let t9 := ref_apart t7.fst t7.snd.fst t7.snd.snd t8.fst t8.snd.fst t8.snd.snd; let t10 := ref_gcd.g t6.fst t6.snd t9.fst t9.snd; let t11 := ref_gcd t6.fst t6.snd t9.fst t9.snd; let t12 := ref_Norm a0 a1; let t13 := ref_class.ok t7.fst t7.snd.fst t7.snd.snd t11.snd; let t14 := ref_class t7.fst t7.snd.fst t7.snd.snd t11.snd; ref_Join.p0 k a0 a1 b0 b1 t1 t2 t3 t4 t5 t6 t7 t8 t9 t10 t11 t12 t13 t14 h
theorem ref_Join.r (a0 : Int) (a1 : Int) (b0 : Int) (b1 : Int) : runF P GS (tab L_ref_apart) { merge := true } 60 Tryd.f20 [.agg #[.int .u64 a0, .int .u64 a1], .agg #[.int .u64 b0, .int .u64 b1]] = ref_Join.c none (fun q => some (.agg #[.int .u64 (q).1, .int .u64 (q).2] : Value)) a0 a1 b0 b1 := by kernel_rfl
theorem ref_Join.t : TabOK P GS (tab L_ref_Join) :=
  TabOK_mk CS ref_apart.t Tryd.func20 (by kernel_rfl) true 60 (by
    rintro ⟨⟨a0, ⟨a1, ⟨⟩⟩⟩, ⟨⟨b0, ⟨b1, ⟨⟩⟩⟩, ⟨⟩⟩⟩ h
    exact (ref_Join.r a0 a1 b0 b1).trans (ref_Join.p (fun q => (.agg #[.int .u64 (q).1, .int .u64 (q).2] : Value)) a0 a1 b0 b1 h))

def ref_addMod.c0 {γ : Type} (k : Int → γ) (a : Int) (b : Int) (c : Int) (t1 : Int) (t2 : Int) (t3 : Int) : γ := bif decide (a ≥ t1)
  then k (t2)
  else k (t3)
def ref_addMod.c {γ : Type} (k : Int → γ) (a : Int) (b : Int) (c : Int) : γ := let t1 := IntKind.u64.wrap (c - b); let t2 := IntKind.u64.wrap (a - t1); let t3 := IntKind.u64.wrap (a + b); ref_addMod.c0 k a b c t1 t2 t3
def ref_addMod (a : Int) (b : Int) (c : Int) : Int := ref_addMod.c id a b c
def ref_addMod.F : FV := mkF (cP (cI .u64) (cP (cI .u64) (cP (cI .u64) cU))) (fun _ => true) (fun | (a, (b, (c, ()))) => .int .u64 (ref_addMod a b c))
def L_ref_addMod : TL := (64, ref_addMod.F) :: L_ref_Join
theorem ref_addMod.p0 {γ : Type} (k : Int → γ) (a : Int) (b : Int) (c : Int) (t1 : Int) (t2 : Int) (t3 : Int) : ref_addMod.c0 k a b c t1 t2 t3 = k (ref_addMod.c0 id a b c t1 t2 t3) := by
  unfold ref_addMod.c0; (repeat' (first | (apply pc k) | (exact rfl)))
theorem ref_addMod.p {γ : Type} (k : Int → γ) (a : Int) (b : Int) (c : Int) : ref_addMod.c k a b c = k (ref_addMod a b c) :=
  let t1 := IntKind.u64.wrap (c - b); let t2 := IntKind.u64.wrap (a - t1); let t3 := IntKind.u64.wrap (a + b); ref_addMod.p0 k a b c t1 t2 t3
theorem ref_addMod.r (a : Int) (b : Int) (c : Int) : runF P GS (tab L_ref_Join) { merge := true } 60 Tryd.f64 [.int .u64 a, .int .u64 b, .int .u64 c] = ref_addMod.c (fun q => some (.int .u64 (q) : Value)) a b c := by kernel_rfl
theorem ref_addMod.t : TabOK P GS (tab L_ref_addMod) :=
  TabOK_mk CS ref_Join.t Tryd.func64 (by kernel_rfl) true 60 (by
    rintro ⟨a, ⟨b, ⟨c, ⟨⟩⟩⟩⟩ h
    exact (ref_addMod.r a b c).trans (ref_addMod.p (fun q => some (.int .u64 (q) : Value)) a b c))

def ref_timesMod.c0 {γ : Type} (n : γ) (k : Int → γ) (a : Int) (b : Int) (c : Int) (t1 : Bool) (t2 : Int × Int) (t3 : Int × Int) (t4 : Bool) (t5 : Int × Int × Int × Int) : γ := bif t1
  then bif t4
   then k (t5.snd.snd.snd)
   else n
  else n
def ref_timesMod.c {γ : Type} (n : γ) (k : Int → γ) (a : Int) (b : Int) (c : Int) : γ := let t1 := ref_times.g a b; let t2 := ref_times a b; let t3 := ref_of c; let t4 := ref_parted.g t2.fst t2.snd t3.fst t3.snd; let t5 := ref_parted t2.fst t2.snd t3.fst t3.snd; ref_timesMod.c0 n k a b c t1 t2 t3 t4 t5
def ref_timesMod.ok (a : Int) (b : Int) (c : Int) : Bool := ref_timesMod.c false (fun _ => true) a b c
def ref_timesMod (a : Int) (b : Int) (c : Int) : Int := ref_timesMod.c (0) id a b c
def ref_timesMod.F : FV := mkF (cP (cI .u64) (cP (cI .u64) (cP (cI .u64) cU))) (fun | (a, (b, (c, ()))) => ref_timesMod.ok a b c) (fun | (a, (b, (c, ()))) => .int .u64 (ref_timesMod a b c))
def L_ref_timesMod : TL := (57, ref_timesMod.F) :: L_ref_addMod
theorem ref_timesMod.p0 {γ : Type} (k : Int → γ) (a : Int) (b : Int) (c : Int) (t1 : Bool) (t2 : Int × Int) (t3 : Int × Int) (t4 : Bool) (t5 : Int × Int × Int × Int) : ref_timesMod.c0 false (fun _ => true) a b c t1 t2 t3 t4 t5 = true → ref_timesMod.c0 none (fun q => some (k q)) a b c t1 t2 t3 t4 t5 = some (k (ref_timesMod.c0 (0) id a b c t1 t2 t3 t4 t5)) := by
  unfold ref_timesMod.c0; (repeat' (first | (apply pn k) | (exact pn_none _ _) | (exact pn_leaf k _)))
theorem ref_timesMod.p {γ : Type} (k : Int → γ) (a : Int) (b : Int) (c : Int) (h : ref_timesMod.ok a b c = true) : ref_timesMod.c none (fun q => some (k q)) a b c = some (k (ref_timesMod a b c)) :=
  let t1 := ref_times.g a b; let t2 := ref_times a b; let t3 := ref_of c; let t4 := ref_parted.g t2.fst t2.snd t3.fst t3.snd; let t5 := ref_parted t2.fst t2.snd t3.fst t3.snd; ref_timesMod.p0 k a b c t1 t2 t3 t4 t5 h
theorem ref_timesMod.r (a : Int) (b : Int) (c : Int) : runF P GS (tab L_ref_addMod) { merge := true } 60 Tryd.f57 [.int .u64 a, .int .u64 b, .int .u64 c] = ref_timesMod.c none (fun q => some (.int .u64 (q) : Value)) a b c := by kernel_rfl
theorem ref_timesMod.t : TabOK P GS (tab L_ref_timesMod) :=
  TabOK_mk CS ref_addMod.t Tryd.func57 (by kernel_rfl) true 60 (by
    rintro ⟨a, ⟨b, ⟨c, ⟨⟩⟩⟩⟩ h
    exact (ref_timesMod.r a b c).trans (ref_timesMod.p (fun q => (.int .u64 (q) : Value)) a b c h))

def ref_inverse.val (q : Int) : Value := .int .u64 (q)
def ref_inverse.h : List (Nat × List Nat × Nat) := [(3, [1, 5, 6, 7, 8], 0)]
def ref_inverse.e0 (q : Int × Int × Int × Int × Int) : St := { tmps := [.unk, .val (.int .u64 (q).1), .unk, .unk, .unk, .val (.int .u64 (q).2.1), .val (.int .u64 (q).2.2.1), .val (.int .u64 (q).2.2.2.1), .val (.int .u64 (q).2.2.2.2), .unk, .unk, .unk, .unk, .unk, .unk, .unk, .unk, .unk, .unk, .unk, .unk, .unk, .unk, .unk, .unk, .unk, .unk, .unk, .unk, .unk, .unk, .unk, .unk, .unk, .unk, .unk, .unk, .unk], blks := [], saved := [] }
noncomputable def ref_inverse.B0 : Code := loopAt [1, 1, 1, 0, 0] (fbody Tryd.f58)
noncomputable def ref_inverse.H (F0 : LSum) : Heads := { heads := ref_inverse.h, merge := true, sums := [(3, F0)] }
noncomputable def ref_inverse.H0  : Heads := { heads := ref_inverse.h, merge := true, sums := [] }
noncomputable def ref_inverse.K0 (F0 : LSum) : Xt → St → Option Value := kAt P GS (tab L_ref_timesMod) (ref_inverse.H F0) [1, 1, 1, 0, 0] 60 (fbody Tryd.f58) (retK P GS Tryd.f58)
def ref_inverse.l0.c0 {γ : Type} (k0 : Int × Int × Int × Int × Int → Option γ) (k : Int → Option γ) (s1 : Int) (s5 : Int) (s6 : Int) (s7 : Int) (s8 : Int) (t1 : Int) (t2 : Bool) (t3 : Int) (t4 : Int) (t5 : Int) (t6 : Int) (t7 : Int) : Option γ := bif decide (s8 > 0)
  then bif !decide (s8 = 0)
   then bif !decide (s1 = 0)
    then bif t2
     then k0 (s1, s6, t5, s8, t7)
     else none
    else none
   else none
  else k (s5)
def ref_inverse.l0.c {γ : Type} (k0 : Int × Int × Int × Int × Int → Option γ) (k : Int → Option γ) (s1 : Int) (s5 : Int) (s6 : Int) (s7 : Int) (s8 : Int) : Option γ := let t1 := IntKind.u64.wrap (s7.tdiv s8); let t2 := ref_timesMod.ok (t1.tmod s1) s6 s1; let t3 := ref_timesMod (t1.tmod s1) s6 s1; let t4 := IntKind.u64.wrap (s1 - t3); let t5 := ref_addMod s5 t4 s1; let t6 := IntKind.u64.wrap (t1 * s8); let t7 := IntKind.u64.wrap (s7 - t6); ref_inverse.l0.c0 k0 k s1 s5 s6 s7 s8 t1 t2 t3 t4 t5 t6 t7
def ref_inverse.c {γ : Type} (k0 : Int × Int × Int × Int × Int → Option γ) (k : Int → Option γ) (a : Int) (b : Int) : Option γ := bif !decide (b = 0)
  then k0 (b, 0, 1, b, a.tmod b)
  else none
def ref_inverse.L0 (N : Nat)  : Nat → Int × Int × Int × Int × Int → Option (Int)
  | 0, _ => none
  | m + 1, q => ref_inverse.l0.c (ref_inverse.L0 N m) some (q).1 (q).2.1 (q).2.2.1 (q).2.2.2.1 (q).2.2.2.2
def ref_inverse.o (N : Nat) (a : Int) (b : Int) : Option (Int) := ref_inverse.c (ref_inverse.L0 N  N) some a b
noncomputable def ref_inverse.S0 (N : Nat) : LSum := sumN P GS (tab L_ref_timesMod) (ref_inverse.H0 ) 60 ref_inverse.B0 N
theorem ref_inverse.l0.p0 {γ δ : Type} (f : γ → δ) (k0 : Int × Int × Int × Int × Int → Option γ) (k : Int → Option γ) (s1 : Int) (s5 : Int) (s6 : Int) (s7 : Int) (s8 : Int) (t1 : Int) (t2 : Bool) (t3 : Int) (t4 : Int) (t5 : Int) (t6 : Int) (t7 : Int) : ref_inverse.l0.c0 (fun q => (k0 q).map f) (fun q => (k q).map f) s1 s5 s6 s7 s8 t1 t2 t3 t4 t5 t6 t7 = (ref_inverse.l0.c0 k0 k s1 s5 s6 s7 s8 t1 t2 t3 t4 t5 t6 t7).map f := by
  unfold ref_inverse.l0.c0; (repeat' (first | (apply pm f) | (exact rfl)))
theorem ref_inverse.l0.p {γ δ : Type} (f : γ → δ) (k0 : Int × Int × Int × Int × Int → Option γ) (k : Int → Option γ) (s1 : Int) (s5 : Int) (s6 : Int) (s7 : Int) (s8 : Int) : ref_inverse.l0.c (fun q => (k0 q).map f) (fun q => (k q).map f) s1 s5 s6 s7 s8 = (ref_inverse.l0.c k0 k s1 s5 s6 s7 s8).map f :=
  let t1 := IntKind.u64.wrap (s7.tdiv s8); let t2 := ref_timesMod.ok (t1.tmod s1) s6 s1; let t3 := ref_timesMod (t1.tmod s1) s6 s1; let t4 := IntKind.u64.wrap (s1 - t3); let t5 := ref_addMod s5 t4 s1; let t6 := IntKind.u64.wrap (t1 * s8); let t7 := IntKind.u64.wrap (s7 - t6); ref_inverse.l0.p0 f k0 k s1 s5 s6 s7 s8 t1 t2 t3 t4 t5 t6 t7
theorem ref_inverse.p {γ δ : Type} (f : γ → δ) (k0 : Int × Int × Int × Int × Int → Option γ) (k : Int → Option γ) (a : Int) (b : Int) : ref_inverse.c (fun q => (k0 q).map f) (fun q => (k q).map f) a b = (ref_inverse.c k0 k a b).map f := by
  unfold ref_inverse.c; (repeat' (first | (apply pm f) | (exact rfl)))
theorem ref_inverse.S0.ok (N : Nat) : LoopsOK P GS (ref_inverse.H0 ).sums ref_inverse.B0 := by
  refine LoopsOK_code fun i hi F hF => ?_
  have hlen : (loopsOf ref_inverse.B0).length = 0 := by kernel_rfl
  rw [hlen] at hi
  omega

theorem ref_inverse.S0.snd (N : Nat) : SoundL P GS ref_inverse.B0 (ref_inverse.S0 N) := sumN_sound CS.mixed CS.names ref_timesMod.t (ref_inverse.S0.ok N) N
theorem ref_inverse.l0.r (F0 G0 : LSum) (s1 : Int) (s5 : Int) (s6 : Int) (s7 : Int) (s8 : Int) : ex P GS (tab L_ref_timesMod) (ref_inverse.H0 ) 60 ref_inverse.B0 (ref_inverse.e0 (s1, s5, s6, s7, s8)) (roundK (ref_inverse.H0 ) ref_inverse.B0 G0 (ref_inverse.K0 F0)) = ref_inverse.l0.c (fun q => G0.run (ref_inverse.e0 q) (ref_inverse.K0 F0)) (fun q => some (ref_inverse.val q)) s1 s5 s6 s7 s8 := by kernel_rfl
theorem ref_inverse.r (F0 : LSum) (a : Int) (b : Int) : runF P GS (tab L_ref_timesMod) (ref_inverse.H F0) 60 Tryd.f58 [.int .u64 a, .int .u64 b] = ref_inverse.c (fun q => F0.run (ref_inverse.e0 q) (ref_inverse.K0 F0)) (fun q => some (ref_inverse.val q)) a b := by kernel_rfl
theorem ref_inverse.L0.ok (N : Nat) (F0 : LSum)   : ∀ m q, (sumN P GS (tab L_ref_timesMod) (ref_inverse.H0 ) 60 ref_inverse.B0 m).run (ref_inverse.e0 q) (ref_inverse.K0 F0) = (ref_inverse.L0 N  m q).map ref_inverse.val
  | 0, q => rfl
  | m + 1, q => by
    have ih := ref_inverse.L0.ok N F0   m
    refine (sumN_run (n := m) rfl).trans ((ref_inverse.l0.r F0 (sumN P GS (tab L_ref_timesMod) (ref_inverse.H0 ) 60 ref_inverse.B0 m) (q).1 (q).2.1 (q).2.2.1 (q).2.2.2.1 (q).2.2.2.2).trans ?_)
    refine Eq.trans ?_ (ref_inverse.l0.p ref_inverse.val (ref_inverse.L0 N m) some (q).1 (q).2.1 (q).2.2.1 (q).2.2.2.1 (q).2.2.2.2)
    have e0 : (fun q => (sumN P GS (tab L_ref_timesMod) (ref_inverse.H0 ) 60 ref_inverse.B0 m).run (ref_inverse.e0 q) (ref_inverse.K0 F0)) = (fun q => ((ref_inverse.L0 N m) q).map ref_inverse.val) := funext ih
    rw [e0]; rfl

theorem ref_inverse.q (N : Nat) (a : Int) (b : Int) : runF P GS (tab L_ref_timesMod) (ref_inverse.H (ref_inverse.S0 N)) 60 Tryd.f58 [.int .u64 a, .int .u64 b] = (ref_inverse.o N a b).map ref_inverse.val := by
  have hk0 := ref_inverse.L0.ok N (ref_inverse.S0 N)   N
  refine (ref_inverse.r (ref_inverse.S0 N) a b).trans ?_
  refine Eq.trans ?_ (ref_inverse.p ref_inverse.val (ref_inverse.L0 N  N) some a b)
  have e0 : (fun q => (ref_inverse.S0 N).run (ref_inverse.e0 q) (ref_inverse.K0 (ref_inverse.S0 N))) = (fun q => ((ref_inverse.L0 N  N) q).map ref_inverse.val) := funext hk0
  rw [e0]; rfl

theorem ref_inverse.lok (N : Nat) : LoopsOK P GS (ref_inverse.H (ref_inverse.S0 N)).sums (fbody Tryd.f58) := by
  refine LoopsOK_code fun i hi F hF => ?_
  have hlen : (loopsOf (fbody Tryd.f58)).length = 1 := by kernel_rfl
  rw [hlen] at hi
  match i, hi with
  | 0, _ => exact soundAt (B' := ref_inverse.B0) (by kernel_rfl) (by kernel_rfl) (ref_inverse.S0.snd N) hF
  | _ + 1, h => omega

def ref_inverse (a : Int) (b : Int) : Int := hide ((ref_inverse.o (b.toNat + 2) a b).getD (0))
def ref_inverse.g (a : Int) (b : Int) : Bool := hide (ref_inverse.o (b.toNat + 2) a b).isSome
theorem ref_inverse.s (a : Int) (b : Int) (h : ref_inverse.g a b = true) : ref_inverse.o (b.toNat + 2) a b = some (ref_inverse a b) := by
  unfold ref_inverse.g at h; unfold ref_inverse; simp only [hide_eq] at h ⊢; revert h; cases ref_inverse.o (b.toNat + 2) a b <;> simp
def ref_inverse.F : FV := mkF (cP (cI .u64) (cP (cI .u64) cU)) (fun | (a, (b, ())) => ref_inverse.g a b) (fun | (a, (b, ())) => ref_inverse.val (ref_inverse a b))
def L_ref_inverse : TL := (58, ref_inverse.F) :: L_ref_timesMod
theorem ref_inverse.t : TabOK P GS (tab L_ref_inverse) :=
  TabOK_mkH CS ref_timesMod.t Tryd.func58 (by kernel_rfl) (fun | (_, (b, ())) => ref_inverse.H (ref_inverse.S0 (b.toNat + 2))) (by rintro ⟨a, ⟨b, ⟨⟩⟩⟩; exact ref_inverse.lok _) 60 (by
    rintro ⟨a, ⟨b, ⟨⟩⟩⟩ h
    exact (ref_inverse.q (b.toNat + 2) a b).trans (congrArg (Option.map ref_inverse.val) (ref_inverse.s a b h)))

def ref_Meet.c0 {γ : Type} (n : γ) (k : Int × Int × Bool → γ) (a0 : Int) (a1 : Int) (b0 : Int) (b1 : Int) (t1 : Int × Int) (t2 : Int × Int) (t3 : Bool) (t4 : Bool) (t5 : Bool) (t6 : Bool) (t7 : Int × Int) (t8 : Int × Int) (t9 : Bool) (t10 : Int × Int) (t11 : Int) (t12 : Int) (t13 : Bool) (t14 : Int) (t15 : Int) (t16 : Int) (t17 : Int) (t18 : Int) (t19 : Int) (t20 : Int) (t21 : Bool) (t22 : Int) (t23 : Int) (t24 : Bool) (t25 : Int × Int) (t26 : Int) (t27 : Bool) (t28 : Int × Int) (t29 : Int) (t30 : Int × Int) (t31 : Bool) (t32 : Int) (t33 : Int × Int) (t34 : Int × Int) (t35 : Bool) (t36 : Int) (t37 : Int) (t38 : Int × Int) (t39 : Bool) (t40 : Int × Int) (t41 : Bool) (t42 : Int) (t43 : Int) (t44 : Int × Int) : γ := bif t1.fst == 0
  then bif t3
   then bif t4
    then k (t1.fst, t1.snd, true)
    else bif t5
     then bif t6
      then k (t2.fst, t2.snd, true)
      else k (0, 0, false)
     else n
   else n
  else bif t2.fst == 0
   then bif t3
    then bif t4
     then k (t1.fst, t1.snd, true)
     else bif t5
      then bif t6
       then k (t2.fst, t2.snd, true)
       else k (0, 0, false)
      else n
    else n
   else bif t9
    then bif !decide (t10.snd = 0)
     then bif !decide (t10.snd = 0)
      then bif t1.snd.tmod t10.snd != t2.snd.tmod t10.snd
       then k (0, 0, false)
       else bif !decide (t10.snd = 0)
        then bif true && (true && (true && (true && (true && (true && (!decide (t10.snd = 0) && (true && (!decide (t11 = 0) && (true && true))))))))) && (true && (true && (true && (true && (true && true)))) && (true && (true && (true && (true && (true && (true && (true && (!decide (t10.snd = 0) && (true && (!decide (t11 = 0) && (true && (true && (!decide (t11 = 0) && (true && true))))))))))))) && true || bif decide (t2.snd < t1.snd) then true && (true && (true && (true && (true && (true && (true && (!decide (t10.snd = 0) && (true && (!decide (t11 = 0) && (true && (true && (!decide (t11 = 0) && (true && true))))))))))))) else true) && (true && (true && (true && (true && (!decide (t10.snd = 0) && (true && (t13 && (true && (t21 && (true && true))))))))))) && true || bif decide (t11 > 1) then true && (true && (true && (true && (true && (true && (!decide (t10.snd = 0) && (true && (!decide (t11 = 0) && (true && true))))))))) && (true && (true && (true && (true && (true && true)))) && (true && (true && (true && (true && (true && (true && (true && (!decide (t10.snd = 0) && (true && (!decide (t11 = 0) && (true && (true && (!decide (t11 = 0) && (true && true))))))))))))) && true || bif decide (t2.snd < t1.snd) then true && (true && (true && (true && (true && (true && (true && (!decide (t10.snd = 0) && (true && (!decide (t11 = 0) && (true && (true && (!decide (t11 = 0) && (true && true))))))))))))) else true) && (true && (true && (true && (true && (!decide (t10.snd = 0) && (true && (t13 && (true && (t21 && (true && true))))))))))) else true
         then bif t24
          then bif decide (t26 < t1.snd)
           then bif t27
            then bif t28.fst == 0
             then k (t28.snd, t26, true)
             else bif t31
              then k (t33.fst, t33.snd, true)
              else bif !t35
               then k (t38.fst, t38.snd, true)
               else k (0, 0, false)
            else n
           else bif t27
            then bif t28.fst == 0
             then k (t28.snd, t26, true)
             else bif t39
              then k (t33.fst, t33.snd, true)
              else bif !t41
               then k (t44.fst, t44.snd, true)
               else k (0, 0, false)
            else n
          else n
         else n
        else n
      else n
     else n
    else n
def ref_Meet.c {γ : Type} (n : γ) (k : Int × Int × Bool → γ) (a0 : Int) (a1 : Int) (b0 : Int) (b1 : Int) : γ := let t1 := ref_Norm a0 a1; let t2 := ref_Norm b0 b1; let t3 := ref_Leq.ok t1.fst t1.snd t2.fst t2.snd; let t4 := ref_Leq t1.fst t1.snd t2.fst t2.snd; let t5 := ref_Leq.ok t2.fst t2.snd t1.fst t1.snd; let t6 := ref_Leq t2.fst t2.snd t1.fst t1.snd; let t7 := ref_of t1.fst; let t8 := ref_of t2.fst; let t9 := ref_gcd.g t7.fst t7.snd t8.fst t8.snd; let t10 := ref_gcd t7.fst t7.snd t8.fst t8.snd; let t11 := IntKind.u64.wrap (t2.fst.tdiv t10.snd); let t12 := IntKind.u64.wrap (t1.fst.tdiv t10.snd); let t13 := ref_inverse.g t12 t11; let t14 := IntKind.u64.wrap (t1.snd - t2.snd); let t15 := IntKind.u64.wrap (t14.tdiv t10.snd); let t16 := IntKind.u64.wrap (t11 - t15.tmod t11); let t17 := IntKind.u64.wrap (t2.snd - t1.snd); let t18 := IntKind.u64.wrap (t17.tdiv t10.snd); let t19 := bif decide (t2.snd < t1.snd) then t16.tmod t11 else t18.tmod t11; let t20 := ref_inverse t12 t11; let t21 := ref_timesMod.ok t19 t20 t11; let t22 := ref_timesMod t19 t20 t11; let t23 := bif decide (t11 > 1) then t22 else 0; let t24 := ref_times.g t1.fst t23; let t25 := ref_times t1.fst t23; let t26 := IntKind.u64.wrap (t25.snd + t1.snd); let t27 := ref_times.g t1.fst t11; let t28 := ref_times t1.fst t11; let t29 := IntKind.u64.wrap (t25.fst + 1); let t30 := ref_of 9223372036854775808; let t31 := ref_less t29 t26 t30.fst t30.snd; let t32 := IntKind.i64.wrap t26; let t33 := ref_Const t32; let t34 := ref_minus t28.fst t28.snd t29 t26; let t35 := ref_less t30.fst t30.snd t34.fst t34.snd; let t36 := IntKind.u64.wrap (0 - t34.snd); let t37 := IntKind.i64.wrap t36; let t38 := ref_Const t37; let t39 := ref_less t25.fst t26 t30.fst t30.snd; let t40 := ref_minus t28.fst t28.snd t25.fst t26; let t41 := ref_less t30.fst t30.snd t40.fst t40.snd; let t42 := IntKind.u64.wrap (0 - t40.snd); let t43 := IntKind.i64.wrap t42; let t44 := ref_Const t43; ref_Meet.c0 n k a0 a1 b0 b1 t1 t2 t3 t4 t5 t6 t7 t8 t9 t10 t11 t12 t13 t14 t15 t16 t17 t18 t19 t20 t21 t22 t23 t24 t25 t26 t27 t28 t29 t30 t31 t32 t33 t34 t35 t36 t37 t38 t39 t40 t41 t42 t43 t44
def ref_Meet.ok (a0 : Int) (a1 : Int) (b0 : Int) (b1 : Int) : Bool := ref_Meet.c false (fun _ => true) a0 a1 b0 b1
def ref_Meet (a0 : Int) (a1 : Int) (b0 : Int) (b1 : Int) : Int × Int × Bool := ref_Meet.c (0, 0, false) id a0 a1 b0 b1
def ref_Meet.F : FV := mkF (cP (cA (cP (cI .u64) (cP (cI .u64) cU))) (cP (cA (cP (cI .u64) (cP (cI .u64) cU))) cU)) (fun | ((a0, (a1, ())), ((b0, (b1, ())), ())) => ref_Meet.ok a0 a1 b0 b1) (fun | ((a0, (a1, ())), ((b0, (b1, ())), ())) => .tuple #[.agg #[.int .u64 (ref_Meet a0 a1 b0 b1).1, .int .u64 (ref_Meet a0 a1 b0 b1).2.1], .bool (ref_Meet a0 a1 b0 b1).2.2])
def L_ref_Meet : TL := (21, ref_Meet.F) :: L_ref_inverse
theorem ref_Meet.p0 {γ : Type} (k : Int × Int × Bool → γ) (a0 : Int) (a1 : Int) (b0 : Int) (b1 : Int) (t1 : Int × Int) (t2 : Int × Int) (t3 : Bool) (t4 : Bool) (t5 : Bool) (t6 : Bool) (t7 : Int × Int) (t8 : Int × Int) (t9 : Bool) (t10 : Int × Int) (t11 : Int) (t12 : Int) (t13 : Bool) (t14 : Int) (t15 : Int) (t16 : Int) (t17 : Int) (t18 : Int) (t19 : Int) (t20 : Int) (t21 : Bool) (t22 : Int) (t23 : Int) (t24 : Bool) (t25 : Int × Int) (t26 : Int) (t27 : Bool) (t28 : Int × Int) (t29 : Int) (t30 : Int × Int) (t31 : Bool) (t32 : Int) (t33 : Int × Int) (t34 : Int × Int) (t35 : Bool) (t36 : Int) (t37 : Int) (t38 : Int × Int) (t39 : Bool) (t40 : Int × Int) (t41 : Bool) (t42 : Int) (t43 : Int) (t44 : Int × Int) : ref_Meet.c0 false (fun _ => true) a0 a1 b0 b1 t1 t2 t3 t4 t5 t6 t7 t8 t9 t10 t11 t12 t13 t14 t15 t16 t17 t18 t19 t20 t21 t22 t23 t24 t25 t26 t27 t28 t29 t30 t31 t32 t33 t34 t35 t36 t37 t38 t39 t40 t41 t42 t43 t44 = true → ref_Meet.c0 none (fun q => some (k q)) a0 a1 b0 b1 t1 t2 t3 t4 t5 t6 t7 t8 t9 t10 t11 t12 t13 t14 t15 t16 t17 t18 t19 t20 t21 t22 t23 t24 t25 t26 t27 t28 t29 t30 t31 t32 t33 t34 t35 t36 t37 t38 t39 t40 t41 t42 t43 t44 = some (k (ref_Meet.c0 (0, 0, false) id a0 a1 b0 b1 t1 t2 t3 t4 t5 t6 t7 t8 t9 t10 t11 t12 t13 t14 t15 t16 t17 t18 t19 t20 t21 t22 t23 t24 t25 t26 t27 t28 t29 t30 t31 t32 t33 t34 t35 t36 t37 t38 t39 t40 t41 t42 t43 t44)) := by
  unfold ref_Meet.c0; (repeat' (first | (apply pn k) | (exact pn_none _ _) | (exact pn_leaf k _)))
theorem ref_Meet.p {γ : Type} (k : Int × Int × Bool → γ) (a0 : Int) (a1 : Int) (b0 : Int) (b1 : Int) (h : ref_Meet.ok a0 a1 b0 b1 = true) : ref_Meet.c none (fun q => some (k q)) a0 a1 b0 b1 = some (k (ref_Meet a0 a1 b0 b1)) :=
  let t1 := ref_Norm a0 a1; let t2 := ref_Norm b0 b1; let t3 := ref_Leq.ok t1.fst t1.snd t2.fst t2.snd; let t4 := ref_Leq t1.fst t1.snd t2.fst t2.snd; let t5 := ref_Leq.ok t2.fst t2.snd t1.fst t1.snd; let t6 := ref_Leq t2.fst t2.snd t1.fst t1.snd; let t7 := ref_of t1.fst; let t8 := ref_of t2.fst; let t9 := ref_gcd.g t7.fst t7.snd t8.fst t8.snd; let t10 := ref_gcd t7.fst t7.snd t8.fst t8.snd; let t11 := IntKind.u64.wrap (t2.fst.tdiv t10.snd); let t12 := IntKind.u64.wrap (t1.fst.tdiv t10.snd); let t13 := ref_inverse.g t12 t11; let t14 := IntKind.u64.wrap (t1.snd - t2.snd); let t15 := IntKind.u64.wrap (t14.tdiv t10.snd); let t16 := IntKind.u64.wrap (t11 - t15.tmod t11); let t17 := IntKind.u64.wrap (t2.snd - t1.snd); let t18 := IntKind.u64.wrap (t17.tdiv t10.snd); let t19 := bif decide (t2.snd < t1.snd) then t16.tmod t11 else t18.tmod t11; let t20 := ref_inverse t12 t11; let t21 := ref_timesMod.ok t19 t20 t11; let t22 := ref_timesMod t19 t20 t11; let t23 := bif decide (t11 > 1) then t22 else 0; let t24 := ref_times.g t1.fst t23; let t25 := ref_times t1.fst t23; let t26 := IntKind.u64.wrap (t25.snd + t1.snd); let t27 := ref_times.g t1.fst t11; let t28 := ref_times t1.fst t11; let t29 := IntKind.u64.wrap (t25.fst + 1); let t30 := ref_of 9223372036854775808; let t31 := ref_less t29 t26 t30.fst t30.snd; let t32 := IntKind.i64.wrap t26; let t33 := ref_Const t32; let t34 := ref_minus t28.fst t28.snd t29 t26; let t35 := ref_less t30.fst t30.snd t34.fst t34.snd; let t36 := IntKind.u64.wrap (0 - t34.snd); let t37 := IntKind.i64.wrap t36; let t38 := ref_Const t37; let t39 := ref_less t25.fst t26 t30.fst t30.snd; let t40 := ref_minus t28.fst t28.snd t25.fst t26; let t41 := ref_less t30.fst t30.snd t40.fst t40.snd; let t42 := IntKind.u64.wrap (0 - t40.snd); let t43 := IntKind.i64.wrap t42; let t44 := ref_Const t43; ref_Meet.p0 k a0 a1 b0 b1 t1 t2 t3 t4 t5 t6 t7 t8 t9 t10 t11 t12 t13 t14 t15 t16 t17 t18 t19 t20 t21 t22 t23 t24 t25 t26 t27 t28 t29 t30 t31 t32 t33 t34 t35 t36 t37 t38 t39 t40 t41 t42 t43 t44 h
theorem ref_Meet.r (a0 : Int) (a1 : Int) (b0 : Int) (b1 : Int) : runF P GS (tab L_ref_inverse) { merge := true } 60 Tryd.f21 [.agg #[.int .u64 a0, .int .u64 a1], .agg #[.int .u64 b0, .int .u64 b1]] = ref_Meet.c none (fun q => some (.tuple #[.agg #[.int .u64 (q).1, .int .u64 (q).2.1], .bool (q).2.2] : Value)) a0 a1 b0 b1 := by kernel_rfl
theorem ref_Meet.t : TabOK P GS (tab L_ref_Meet) :=
  TabOK_mk CS ref_inverse.t Tryd.func21 (by kernel_rfl) true 60 (by
    rintro ⟨⟨a0, ⟨a1, ⟨⟩⟩⟩, ⟨⟨b0, ⟨b1, ⟨⟩⟩⟩, ⟨⟩⟩⟩ h
    exact (ref_Meet.r a0 a1 b0 b1).trans (ref_Meet.p (fun q => (.tuple #[.agg #[.int .u64 (q).1, .int .u64 (q).2.1], .bool (q).2.2] : Value)) a0 a1 b0 b1 h))

def ref_Up.c0 {γ : Type} (n : γ) (k : Int × Bool → γ) (a0 : Int) (a1 : Int) (b : Int) (t1 : Int) (t2 : Bool) (t3 : Int × Int × Bool) (t4 : Int × Int) (t5 : Bool) (t6 : Int × Int) (t7 : Int × Int × Bool) (t8 : Bool) (t9 : Int × Int) (t10 : Int × Int) (t11 : Int) (t12 : Int) (t13 : Int) (t14 : Int) (t15 : Int) (t16 : Int) : γ := bif a0 == 0
  then bif decide (t1 < b)
   then k (0, false)
   else k (t1, true)
  else bif t2
   then bif t5
    then bif t8
     then bif !decide (a0 = 0)
      then bif decide (t12 > t14)
       then k (0, false)
       else k (t16, true)
      else n
     else n
    else n
   else n
def ref_Up.c {γ : Type} (n : γ) (k : Int × Bool → γ) (a0 : Int) (a1 : Int) (b : Int) : γ := let t1 := ref_number a0 a1; let t2 := ref_r.ok a0 a1; let t3 := ref_r a0 a1; let t4 := ref_of a0; let t5 := ref_rest.ok t3.fst t3.snd.fst t3.snd.snd t4.fst t4.snd; let t6 := ref_Const b; let t7 := ref_r t6.fst t6.snd; let t8 := ref_rest.ok t7.fst t7.snd.fst t7.snd.snd t4.fst t4.snd; let t9 := ref_rest t3.fst t3.snd.fst t3.snd.snd t4.fst t4.snd; let t10 := ref_rest t7.fst t7.snd.fst t7.snd.snd t4.fst t4.snd; let t11 := IntKind.u64.wrap (a0 - t10.snd); let t12 := ref_addMod t9.snd (t11.tmod a0) a0; let t13 := IntKind.u64.wrap b; let t14 := IntKind.u64.wrap (9223372036854775807 - t13); let t15 := IntKind.u64.wrap (t13 + t12); let t16 := IntKind.i64.wrap t15; ref_Up.c0 n k a0 a1 b t1 t2 t3 t4 t5 t6 t7 t8 t9 t10 t11 t12 t13 t14 t15 t16
def ref_Up.ok (a0 : Int) (a1 : Int) (b : Int) : Bool := ref_Up.c false (fun _ => true) a0 a1 b
def ref_Up (a0 : Int) (a1 : Int) (b : Int) : Int × Bool := ref_Up.c (0, false) id a0 a1 b
def ref_Up.F : FV := mkF (cP (cA (cP (cI .u64) (cP (cI .u64) cU))) (cP (cI .i64) cU)) (fun | ((a0, (a1, ())), (b, ())) => ref_Up.ok a0 a1 b) (fun | ((a0, (a1, ())), (b, ())) => .tuple #[.int .i64 (ref_Up a0 a1 b).1, .bool (ref_Up a0 a1 b).2])
def L_ref_Up : TL := (23, ref_Up.F) :: L_ref_Meet
theorem ref_Up.p0 {γ : Type} (k : Int × Bool → γ) (a0 : Int) (a1 : Int) (b : Int) (t1 : Int) (t2 : Bool) (t3 : Int × Int × Bool) (t4 : Int × Int) (t5 : Bool) (t6 : Int × Int) (t7 : Int × Int × Bool) (t8 : Bool) (t9 : Int × Int) (t10 : Int × Int) (t11 : Int) (t12 : Int) (t13 : Int) (t14 : Int) (t15 : Int) (t16 : Int) : ref_Up.c0 false (fun _ => true) a0 a1 b t1 t2 t3 t4 t5 t6 t7 t8 t9 t10 t11 t12 t13 t14 t15 t16 = true → ref_Up.c0 none (fun q => some (k q)) a0 a1 b t1 t2 t3 t4 t5 t6 t7 t8 t9 t10 t11 t12 t13 t14 t15 t16 = some (k (ref_Up.c0 (0, false) id a0 a1 b t1 t2 t3 t4 t5 t6 t7 t8 t9 t10 t11 t12 t13 t14 t15 t16)) := by
  unfold ref_Up.c0; (repeat' (first | (apply pn k) | (exact pn_none _ _) | (exact pn_leaf k _)))
theorem ref_Up.p {γ : Type} (k : Int × Bool → γ) (a0 : Int) (a1 : Int) (b : Int) (h : ref_Up.ok a0 a1 b = true) : ref_Up.c none (fun q => some (k q)) a0 a1 b = some (k (ref_Up a0 a1 b)) :=
  let t1 := ref_number a0 a1; let t2 := ref_r.ok a0 a1; let t3 := ref_r a0 a1; let t4 := ref_of a0; let t5 := ref_rest.ok t3.fst t3.snd.fst t3.snd.snd t4.fst t4.snd; let t6 := ref_Const b; let t7 := ref_r t6.fst t6.snd; let t8 := ref_rest.ok t7.fst t7.snd.fst t7.snd.snd t4.fst t4.snd; let t9 := ref_rest t3.fst t3.snd.fst t3.snd.snd t4.fst t4.snd; let t10 := ref_rest t7.fst t7.snd.fst t7.snd.snd t4.fst t4.snd; let t11 := IntKind.u64.wrap (a0 - t10.snd); let t12 := ref_addMod t9.snd (t11.tmod a0) a0; let t13 := IntKind.u64.wrap b; let t14 := IntKind.u64.wrap (9223372036854775807 - t13); let t15 := IntKind.u64.wrap (t13 + t12); let t16 := IntKind.i64.wrap t15; ref_Up.p0 k a0 a1 b t1 t2 t3 t4 t5 t6 t7 t8 t9 t10 t11 t12 t13 t14 t15 t16 h
theorem ref_Up.r (a0 : Int) (a1 : Int) (b : Int) : runF P GS (tab L_ref_Meet) { merge := true } 60 Tryd.f23 [.agg #[.int .u64 a0, .int .u64 a1], .int .i64 b] = ref_Up.c none (fun q => some (.tuple #[.int .i64 (q).1, .bool (q).2] : Value)) a0 a1 b := by kernel_rfl
theorem ref_Up.t : TabOK P GS (tab L_ref_Up) :=
  TabOK_mk CS ref_Meet.t Tryd.func23 (by kernel_rfl) true 60 (by
    rintro ⟨⟨a0, ⟨a1, ⟨⟩⟩⟩, ⟨b, ⟨⟩⟩⟩ h
    exact (ref_Up.r a0 a1 b).trans (ref_Up.p (fun q => (.tuple #[.int .i64 (q).1, .bool (q).2] : Value)) a0 a1 b h))

def ref_Down.c0 {γ : Type} (n : γ) (k : Int × Bool → γ) (a0 : Int) (a1 : Int) (b : Int) (t1 : Int) (t2 : Bool) (t3 : Int × Int × Bool) (t4 : Int × Int) (t5 : Bool) (t6 : Int × Int) (t7 : Int × Int × Bool) (t8 : Bool) (t9 : Int × Int) (t10 : Int × Int) (t11 : Int) (t12 : Int) (t13 : Int) (t14 : Int) (t15 : Int) (t16 : Int) : γ := bif a0 == 0
  then bif decide (t1 > b)
   then k (0, false)
   else k (t1, true)
  else bif t2
   then bif t5
    then bif t8
     then bif !decide (a0 = 0)
      then bif decide (t12 > t14)
       then k (0, false)
       else k (t16, true)
      else n
     else n
    else n
   else n
def ref_Down.c {γ : Type} (n : γ) (k : Int × Bool → γ) (a0 : Int) (a1 : Int) (b : Int) : γ := let t1 := ref_number a0 a1; let t2 := ref_r.ok a0 a1; let t3 := ref_r a0 a1; let t4 := ref_of a0; let t5 := ref_rest.ok t3.fst t3.snd.fst t3.snd.snd t4.fst t4.snd; let t6 := ref_Const b; let t7 := ref_r t6.fst t6.snd; let t8 := ref_rest.ok t7.fst t7.snd.fst t7.snd.snd t4.fst t4.snd; let t9 := ref_rest t7.fst t7.snd.fst t7.snd.snd t4.fst t4.snd; let t10 := ref_rest t3.fst t3.snd.fst t3.snd.snd t4.fst t4.snd; let t11 := IntKind.u64.wrap (a0 - t10.snd); let t12 := ref_addMod t9.snd (t11.tmod a0) a0; let t13 := IntKind.u64.wrap b; let t14 := IntKind.u64.wrap (t13 - 9223372036854775808); let t15 := IntKind.u64.wrap (t13 - t12); let t16 := IntKind.i64.wrap t15; ref_Down.c0 n k a0 a1 b t1 t2 t3 t4 t5 t6 t7 t8 t9 t10 t11 t12 t13 t14 t15 t16
def ref_Down.ok (a0 : Int) (a1 : Int) (b : Int) : Bool := ref_Down.c false (fun _ => true) a0 a1 b
def ref_Down (a0 : Int) (a1 : Int) (b : Int) : Int × Bool := ref_Down.c (0, false) id a0 a1 b
def ref_Down.F : FV := mkF (cP (cA (cP (cI .u64) (cP (cI .u64) cU))) (cP (cI .i64) cU)) (fun | ((a0, (a1, ())), (b, ())) => ref_Down.ok a0 a1 b) (fun | ((a0, (a1, ())), (b, ())) => .tuple #[.int .i64 (ref_Down a0 a1 b).1, .bool (ref_Down a0 a1 b).2])
def L_ref_Down : TL := (25, ref_Down.F) :: L_ref_Up
theorem ref_Down.p0 {γ : Type} (k : Int × Bool → γ) (a0 : Int) (a1 : Int) (b : Int) (t1 : Int) (t2 : Bool) (t3 : Int × Int × Bool) (t4 : Int × Int) (t5 : Bool) (t6 : Int × Int) (t7 : Int × Int × Bool) (t8 : Bool) (t9 : Int × Int) (t10 : Int × Int) (t11 : Int) (t12 : Int) (t13 : Int) (t14 : Int) (t15 : Int) (t16 : Int) : ref_Down.c0 false (fun _ => true) a0 a1 b t1 t2 t3 t4 t5 t6 t7 t8 t9 t10 t11 t12 t13 t14 t15 t16 = true → ref_Down.c0 none (fun q => some (k q)) a0 a1 b t1 t2 t3 t4 t5 t6 t7 t8 t9 t10 t11 t12 t13 t14 t15 t16 = some (k (ref_Down.c0 (0, false) id a0 a1 b t1 t2 t3 t4 t5 t6 t7 t8 t9 t10 t11 t12 t13 t14 t15 t16)) := by
  unfold ref_Down.c0; (repeat' (first | (apply pn k) | (exact pn_none _ _) | (exact pn_leaf k _)))
theorem ref_Down.p {γ : Type} (k : Int × Bool → γ) (a0 : Int) (a1 : Int) (b : Int) (h : ref_Down.ok a0 a1 b = true) : ref_Down.c none (fun q => some (k q)) a0 a1 b = some (k (ref_Down a0 a1 b)) :=
  let t1 := ref_number a0 a1; let t2 := ref_r.ok a0 a1; let t3 := ref_r a0 a1; let t4 := ref_of a0; let t5 := ref_rest.ok t3.fst t3.snd.fst t3.snd.snd t4.fst t4.snd; let t6 := ref_Const b; let t7 := ref_r t6.fst t6.snd; let t8 := ref_rest.ok t7.fst t7.snd.fst t7.snd.snd t4.fst t4.snd; let t9 := ref_rest t7.fst t7.snd.fst t7.snd.snd t4.fst t4.snd; let t10 := ref_rest t3.fst t3.snd.fst t3.snd.snd t4.fst t4.snd; let t11 := IntKind.u64.wrap (a0 - t10.snd); let t12 := ref_addMod t9.snd (t11.tmod a0) a0; let t13 := IntKind.u64.wrap b; let t14 := IntKind.u64.wrap (t13 - 9223372036854775808); let t15 := IntKind.u64.wrap (t13 - t12); let t16 := IntKind.i64.wrap t15; ref_Down.p0 k a0 a1 b t1 t2 t3 t4 t5 t6 t7 t8 t9 t10 t11 t12 t13 t14 t15 t16 h
theorem ref_Down.r (a0 : Int) (a1 : Int) (b : Int) : runF P GS (tab L_ref_Up) { merge := true } 60 Tryd.f25 [.agg #[.int .u64 a0, .int .u64 a1], .int .i64 b] = ref_Down.c none (fun q => some (.tuple #[.int .i64 (q).1, .bool (q).2] : Value)) a0 a1 b := by kernel_rfl
theorem ref_Down.t : TabOK P GS (tab L_ref_Down) :=
  TabOK_mk CS ref_Up.t Tryd.func25 (by kernel_rfl) true 60 (by
    rintro ⟨⟨a0, ⟨a1, ⟨⟩⟩⟩, ⟨b, ⟨⟩⟩⟩ h
    exact (ref_Down.r a0 a1 b).trans (ref_Down.p (fun q => (.tuple #[.int .i64 (q).1, .bool (q).2] : Value)) a0 a1 b h))

end
end Go.Proofs.YtoggbmfjkcbilaaDoor.V
