/- What the functions of this seat compute, told by evaluation of their code. Conditions: none. -/
import Derived.Test.YtoggbmfjkcbilaaDoorB
set_option linter.unusedVariables false
set_option linter.unusedSimpArgs false
namespace Go.Proofs.YtoggbmfjkcbilaaDoor.V
open Go Go.Wk
noncomputable section

def cong_Norm.c {γ : Type} (n : γ) (k : Int × Int → γ) (a0 : Int) (a1 : Int) : γ := bif decide (a0 > 0)
  then bif !decide (a0 = 0)
   then k (a0, a1.tmod a0)
   else n
  else k (a0, a1)
def cong_Norm.ok (a0 : Int) (a1 : Int) : Bool := cong_Norm.c false (fun _ => true) a0 a1
def cong_Norm (a0 : Int) (a1 : Int) : Int × Int := cong_Norm.c (0, 0) id a0 a1
def cong_Norm.F : FV := mkF (cP (cA (cP (cI .u64) (cP (cI .u64) cU))) cU) (fun _ => true) (fun | ((a0, (a1, ())), ()) => .agg #[.int .u64 (cong_Norm a0 a1).1, .int .u64 (cong_Norm a0 a1).2])
def L_cong_Norm : TL := (14, cong_Norm.F) :: []
theorem cong_Norm.okt (a0 : Int) (a1 : Int) : cong_Norm.ok a0 a1 = true := by
  unfold cong_Norm.ok cong_Norm.c; by_cases h : a0 = 0 <;> simp [h] <;> omega
theorem cong_Norm.p {γ : Type} (k : Int × Int → γ) (a0 : Int) (a1 : Int) (h : cong_Norm.ok a0 a1 = true) : cong_Norm.c none (fun q => some (k q)) a0 a1 = some (k (cong_Norm a0 a1)) := by
  revert h; unfold cong_Norm cong_Norm.ok cong_Norm.c; (repeat' (first | (apply pn k) | (exact pn_none _ _) | (exact pn_leaf k _)))
theorem cong_Norm.r (a0 : Int) (a1 : Int) : runF P GS (tab []) { merge := true } 60 Tryd.f14 [.agg #[.int .u64 a0, .int .u64 a1]] = cong_Norm.c none (fun q => some (.agg #[.int .u64 (q).1, .int .u64 (q).2] : Value)) a0 a1 := by kernel_rfl
theorem cong_Norm.t : TabOK P GS (tab L_cong_Norm) :=
  TabOK_mk CS TabOK_nil Tryd.func14 (by kernel_rfl) true 60 (by
    rintro ⟨⟨a0, ⟨a1, ⟨⟩⟩⟩, ⟨⟩⟩ h
    exact (cong_Norm.r a0 a1).trans (cong_Norm.p (fun q => (.agg #[.int .u64 (q).1, .int .u64 (q).2] : Value)) a0 a1 (cong_Norm.okt a0 a1)))

def cong_Const.c0 {γ : Type} (k : Int × Int → γ) (a : Int) (t1 : Int) : γ := k (0, t1)
def cong_Const.c {γ : Type} (k : Int × Int → γ) (a : Int) : γ := let t1 := IntKind.u64.wrap a; cong_Const.c0 k a t1
def cong_Const (a : Int) : Int × Int := cong_Const.c id a
def cong_Const.F : FV := mkF (cP (cI .i64) cU) (fun _ => true) (fun | (a, ()) => .agg #[.int .u64 (cong_Const a).1, .int .u64 (cong_Const a).2])
def L_cong_Const : TL := (16, cong_Const.F) :: L_cong_Norm
theorem cong_Const.p0 {γ : Type} (k : Int × Int → γ) (a : Int) (t1 : Int) : cong_Const.c0 k a t1 = k (cong_Const.c0 id a t1) := by
  unfold cong_Const.c0; (repeat' (first | (apply pc k) | (exact rfl)))
theorem cong_Const.p {γ : Type} (k : Int × Int → γ) (a : Int) : cong_Const.c k a = k (cong_Const a) :=
  let t1 := IntKind.u64.wrap a; cong_Const.p0 k a t1
theorem cong_Const.r (a : Int) : runF P GS (tab L_cong_Norm) { merge := true } 60 Tryd.f16 [.int .i64 a] = cong_Const.c (fun q => some (.agg #[.int .u64 (q).1, .int .u64 (q).2] : Value)) a := by kernel_rfl
theorem cong_Const.t : TabOK P GS (tab L_cong_Const) :=
  TabOK_mk CS cong_Norm.t Tryd.func16 (by kernel_rfl) true 60 (by
    rintro ⟨a, ⟨⟩⟩ h
    exact (cong_Const.r a).trans (cong_Const.p (fun q => some (.agg #[.int .u64 (q).1, .int .u64 (q).2] : Value)) a))

def cong_alone.c {γ : Type} (k : Bool → γ) (a0 : Int) (a1 : Int) : γ := k (a0 == 0)
def cong_alone (a0 : Int) (a1 : Int) : Bool := cong_alone.c id a0 a1
def cong_alone.F : FV := mkF (cP (cA (cP (cI .u64) (cP (cI .u64) cU))) cU) (fun _ => true) (fun | ((a0, (a1, ())), ()) => .bool (cong_alone a0 a1))
def L_cong_alone : TL := (40, cong_alone.F) :: L_cong_Const
theorem cong_alone.p {γ : Type} (k : Bool → γ) (a0 : Int) (a1 : Int) : cong_alone.c k a0 a1 = k (cong_alone a0 a1) := by
  unfold cong_alone cong_alone.c; (repeat' (first | (apply pc k) | (exact rfl)))
theorem cong_alone.r (a0 : Int) (a1 : Int) : runF P GS (tab L_cong_Const) { merge := true } 60 Tryd.f40 [.agg #[.int .u64 a0, .int .u64 a1]] = cong_alone.c (fun q => some (.bool (q) : Value)) a0 a1 := by kernel_rfl
theorem cong_alone.t : TabOK P GS (tab L_cong_alone) :=
  TabOK_mk CS cong_Const.t Tryd.func40 (by kernel_rfl) true 60 (by
    rintro ⟨⟨a0, ⟨a1, ⟨⟩⟩⟩, ⟨⟩⟩ h
    exact (cong_alone.r a0 a1).trans (cong_alone.p (fun q => some (.bool (q) : Value)) a0 a1))

def word_Add.c0 {γ : Type} (k : Int → γ) (a : Int) (b : Int) (t1 : Int) (t2 : Int) (t3 : Int) (t4 : Int) : γ := k (t4)
def word_Add.c {γ : Type} (k : Int → γ) (a : Int) (b : Int) : γ := let t1 := IntKind.u64.wrap a; let t2 := IntKind.u64.wrap b; let t3 := IntKind.u64.wrap (t1 + t2); let t4 := IntKind.i64.wrap t3; word_Add.c0 k a b t1 t2 t3 t4
def word_Add (a : Int) (b : Int) : Int := word_Add.c id a b
def word_Add.F : FV := mkF (cP (cI .i64) (cP (cI .i64) cU)) (fun _ => true) (fun | (a, (b, ())) => .int .i64 (word_Add a b))
def L_word_Add : TL := (69, word_Add.F) :: L_cong_alone
theorem word_Add.p0 {γ : Type} (k : Int → γ) (a : Int) (b : Int) (t1 : Int) (t2 : Int) (t3 : Int) (t4 : Int) : word_Add.c0 k a b t1 t2 t3 t4 = k (word_Add.c0 id a b t1 t2 t3 t4) := by
  unfold word_Add.c0; (repeat' (first | (apply pc k) | (exact rfl)))
theorem word_Add.p {γ : Type} (k : Int → γ) (a : Int) (b : Int) : word_Add.c k a b = k (word_Add a b) :=
  let t1 := IntKind.u64.wrap a; let t2 := IntKind.u64.wrap b; let t3 := IntKind.u64.wrap (t1 + t2); let t4 := IntKind.i64.wrap t3; word_Add.p0 k a b t1 t2 t3 t4
theorem word_Add.r (a : Int) (b : Int) : runF P GS (tab L_cong_alone) { merge := true } 60 Tryd.f69 [.int .i64 a, .int .i64 b] = word_Add.c (fun q => some (.int .i64 (q) : Value)) a b := by kernel_rfl
theorem word_Add.t : TabOK P GS (tab L_word_Add) :=
  TabOK_mk CS cong_alone.t Tryd.func69 (by kernel_rfl) true 60 (by
    rintro ⟨a, ⟨b, ⟨⟩⟩⟩ h
    exact (word_Add.r a b).trans (word_Add.p (fun q => some (.int .i64 (q) : Value)) a b))

def word_Sub.c0 {γ : Type} (k : Int → γ) (a : Int) (b : Int) (t1 : Int) (t2 : Int) (t3 : Int) (t4 : Int) : γ := k (t4)
def word_Sub.c {γ : Type} (k : Int → γ) (a : Int) (b : Int) : γ := let t1 := IntKind.u64.wrap a; let t2 := IntKind.u64.wrap b; let t3 := IntKind.u64.wrap (t1 - t2); let t4 := IntKind.i64.wrap t3; word_Sub.c0 k a b t1 t2 t3 t4
def word_Sub (a : Int) (b : Int) : Int := word_Sub.c id a b
def word_Sub.F : FV := mkF (cP (cI .i64) (cP (cI .i64) cU)) (fun _ => true) (fun | (a, (b, ())) => .int .i64 (word_Sub a b))
def L_word_Sub : TL := (73, word_Sub.F) :: L_word_Add
theorem word_Sub.p0 {γ : Type} (k : Int → γ) (a : Int) (b : Int) (t1 : Int) (t2 : Int) (t3 : Int) (t4 : Int) : word_Sub.c0 k a b t1 t2 t3 t4 = k (word_Sub.c0 id a b t1 t2 t3 t4) := by
  unfold word_Sub.c0; (repeat' (first | (apply pc k) | (exact rfl)))
theorem word_Sub.p {γ : Type} (k : Int → γ) (a : Int) (b : Int) : word_Sub.c k a b = k (word_Sub a b) :=
  let t1 := IntKind.u64.wrap a; let t2 := IntKind.u64.wrap b; let t3 := IntKind.u64.wrap (t1 - t2); let t4 := IntKind.i64.wrap t3; word_Sub.p0 k a b t1 t2 t3 t4
theorem word_Sub.r (a : Int) (b : Int) : runF P GS (tab L_word_Add) { merge := true } 60 Tryd.f73 [.int .i64 a, .int .i64 b] = word_Sub.c (fun q => some (.int .i64 (q) : Value)) a b := by kernel_rfl
theorem word_Sub.t : TabOK P GS (tab L_word_Sub) :=
  TabOK_mk CS word_Add.t Tryd.func73 (by kernel_rfl) true 60 (by
    rintro ⟨a, ⟨b, ⟨⟩⟩⟩ h
    exact (word_Sub.r a b).trans (word_Sub.p (fun q => some (.int .i64 (q) : Value)) a b))

def word_Mul.c0 {γ : Type} (k : Int → γ) (a : Int) (b : Int) (t1 : Int) (t2 : Int) (t3 : Int) (t4 : Int) : γ := k (t4)
def word_Mul.c {γ : Type} (k : Int → γ) (a : Int) (b : Int) : γ := let t1 := IntKind.u64.wrap a; let t2 := IntKind.u64.wrap b; let t3 := IntKind.u64.wrap (t1 * t2); let t4 := IntKind.i64.wrap t3; word_Mul.c0 k a b t1 t2 t3 t4
def word_Mul (a : Int) (b : Int) : Int := word_Mul.c id a b
def word_Mul.F : FV := mkF (cP (cI .i64) (cP (cI .i64) cU)) (fun _ => true) (fun | (a, (b, ())) => .int .i64 (word_Mul a b))
def L_word_Mul : TL := (75, word_Mul.F) :: L_word_Sub
theorem word_Mul.p0 {γ : Type} (k : Int → γ) (a : Int) (b : Int) (t1 : Int) (t2 : Int) (t3 : Int) (t4 : Int) : word_Mul.c0 k a b t1 t2 t3 t4 = k (word_Mul.c0 id a b t1 t2 t3 t4) := by
  unfold word_Mul.c0; (repeat' (first | (apply pc k) | (exact rfl)))
theorem word_Mul.p {γ : Type} (k : Int → γ) (a : Int) (b : Int) : word_Mul.c k a b = k (word_Mul a b) :=
  let t1 := IntKind.u64.wrap a; let t2 := IntKind.u64.wrap b; let t3 := IntKind.u64.wrap (t1 * t2); let t4 := IntKind.i64.wrap t3; word_Mul.p0 k a b t1 t2 t3 t4
theorem word_Mul.r (a : Int) (b : Int) : runF P GS (tab L_word_Sub) { merge := true } 60 Tryd.f75 [.int .i64 a, .int .i64 b] = word_Mul.c (fun q => some (.int .i64 (q) : Value)) a b := by kernel_rfl
theorem word_Mul.t : TabOK P GS (tab L_word_Mul) :=
  TabOK_mk CS word_Sub.t Tryd.func75 (by kernel_rfl) true 60 (by
    rintro ⟨a, ⟨b, ⟨⟩⟩⟩ h
    exact (word_Mul.r a b).trans (word_Mul.p (fun q => some (.int .i64 (q) : Value)) a b))

def word_Neg.c0 {γ : Type} (k : Int → γ) (a : Int) (t1 : Int) : γ := k (t1)
def word_Neg.c {γ : Type} (k : Int → γ) (a : Int) : γ := let t1 := word_Sub 0 a; word_Neg.c0 k a t1
def word_Neg (a : Int) : Int := word_Neg.c id a
def word_Neg.F : FV := mkF (cP (cI .i64) cU) (fun _ => true) (fun | (a, ()) => .int .i64 (word_Neg a))
def L_word_Neg : TL := (65, word_Neg.F) :: L_word_Mul
theorem word_Neg.p0 {γ : Type} (k : Int → γ) (a : Int) (t1 : Int) : word_Neg.c0 k a t1 = k (word_Neg.c0 id a t1) := by
  unfold word_Neg.c0; (repeat' (first | (apply pc k) | (exact rfl)))
theorem word_Neg.p {γ : Type} (k : Int → γ) (a : Int) : word_Neg.c k a = k (word_Neg a) :=
  let t1 := word_Sub 0 a; word_Neg.p0 k a t1
theorem word_Neg.r (a : Int) : runF P GS (tab L_word_Mul) { merge := true } 60 Tryd.f65 [.int .i64 a] = word_Neg.c (fun q => some (.int .i64 (q) : Value)) a := by kernel_rfl
theorem word_Neg.t : TabOK P GS (tab L_word_Neg) :=
  TabOK_mk CS word_Mul.t Tryd.func65 (by kernel_rfl) true 60 (by
    rintro ⟨a, ⟨⟩⟩ h
    exact (word_Neg.r a).trans (word_Neg.p (fun q => some (.int .i64 (q) : Value)) a))

def word_Div.c0 {γ : Type} (n : γ) (k : Int × Bool → γ) (a : Int) (b : Int) (t1 : Int) (t2 : Int) : γ := bif b == 0
  then k (0, false)
  else bif b == -1
   then k (t1, true)
   else bif !decide (b = 0)
    then k (t2, true)
    else n
def word_Div.c {γ : Type} (n : γ) (k : Int × Bool → γ) (a : Int) (b : Int) : γ := let t1 := word_Neg a; let t2 := IntKind.i64.wrap (a.tdiv b); word_Div.c0 n k a b t1 t2
def word_Div.ok (a : Int) (b : Int) : Bool := word_Div.c false (fun _ => true) a b
def word_Div (a : Int) (b : Int) : Int × Bool := word_Div.c (0, false) id a b
def word_Div.F : FV := mkF (cP (cI .i64) (cP (cI .i64) cU)) (fun _ => true) (fun | (a, (b, ())) => .tuple #[.int .i64 (word_Div a b).1, .bool (word_Div a b).2])
def L_word_Div : TL := (81, word_Div.F) :: L_word_Neg
theorem word_Div.okt (a : Int) (b : Int) : word_Div.ok a b = true := by
  unfold word_Div.ok word_Div.c word_Div.c0; by_cases h : b = 0 <;> simp [h]
theorem word_Div.p0 {γ : Type} (k : Int × Bool → γ) (a : Int) (b : Int) (t1 : Int) (t2 : Int) : word_Div.c0 false (fun _ => true) a b t1 t2 = true → word_Div.c0 none (fun q => some (k q)) a b t1 t2 = some (k (word_Div.c0 (0, false) id a b t1 t2)) := by
  unfold word_Div.c0; (repeat' (first | (apply pn k) | (exact pn_none _ _) | (exact pn_leaf k _)))
theorem word_Div.p {γ : Type} (k : Int × Bool → γ) (a : Int) (b : Int) (h : word_Div.ok a b = true) : word_Div.c none (fun q => some (k q)) a b = some (k (word_Div a b)) :=
  let t1 := word_Neg a; let t2 := IntKind.i64.wrap (a.tdiv b); word_Div.p0 k a b t1 t2 h
theorem word_Div.r (a : Int) (b : Int) : runF P GS (tab L_word_Neg) { merge := true } 60 Tryd.f81 [.int .i64 a, .int .i64 b] = word_Div.c none (fun q => some (.tuple #[.int .i64 (q).1, .bool (q).2] : Value)) a b := by kernel_rfl
theorem word_Div.t : TabOK P GS (tab L_word_Div) :=
  TabOK_mk CS word_Neg.t Tryd.func81 (by kernel_rfl) true 60 (by
    rintro ⟨a, ⟨b, ⟨⟩⟩⟩ h
    exact (word_Div.r a b).trans (word_Div.p (fun q => (.tuple #[.int .i64 (q).1, .bool (q).2] : Value)) a b (word_Div.okt a b)))

def word_Rem.c {γ : Type} (n : γ) (k : Int × Bool → γ) (a : Int) (b : Int) : γ := bif b == 0
  then k (0, false)
  else bif b == -1
   then k (0, true)
   else bif !decide (b = 0)
    then k (a.tmod b, true)
    else n
def word_Rem.ok (a : Int) (b : Int) : Bool := word_Rem.c false (fun _ => true) a b
def word_Rem (a : Int) (b : Int) : Int × Bool := word_Rem.c (0, false) id a b
def word_Rem.F : FV := mkF (cP (cI .i64) (cP (cI .i64) cU)) (fun _ => true) (fun | (a, (b, ())) => .tuple #[.int .i64 (word_Rem a b).1, .bool (word_Rem a b).2])
def L_word_Rem : TL := (83, word_Rem.F) :: L_word_Div
theorem word_Rem.okt (a : Int) (b : Int) : word_Rem.ok a b = true := by
  unfold word_Rem.ok word_Rem.c; by_cases h : b = 0 <;> simp [h]
theorem word_Rem.p {γ : Type} (k : Int × Bool → γ) (a : Int) (b : Int) (h : word_Rem.ok a b = true) : word_Rem.c none (fun q => some (k q)) a b = some (k (word_Rem a b)) := by
  revert h; unfold word_Rem word_Rem.ok word_Rem.c; (repeat' (first | (apply pn k) | (exact pn_none _ _) | (exact pn_leaf k _)))
theorem word_Rem.r (a : Int) (b : Int) : runF P GS (tab L_word_Div) { merge := true } 60 Tryd.f83 [.int .i64 a, .int .i64 b] = word_Rem.c none (fun q => some (.tuple #[.int .i64 (q).1, .bool (q).2] : Value)) a b := by kernel_rfl
theorem word_Rem.t : TabOK P GS (tab L_word_Rem) :=
  TabOK_mk CS word_Div.t Tryd.func83 (by kernel_rfl) true 60 (by
    rintro ⟨a, ⟨b, ⟨⟩⟩⟩ h
    exact (word_Rem.r a b).trans (word_Rem.p (fun q => (.tuple #[.int .i64 (q).1, .bool (q).2] : Value)) a b (word_Rem.okt a b)))

def word_Mod.c0 {γ : Type} (n : γ) (k : Int → γ) (a : Int) (b : Int) (t1 : Int) (t2 : Int) (t3 : Int) (t4 : Int) (t5 : Int) (t6 : Int) : γ := bif b == 0
  then k (t1)
  else bif decide (a ≥ 0)
   then bif !decide (b = 0)
    then k (t1.tmod b)
    else n
   else bif !decide (b = 0)
    then k (t6)
    else n
def word_Mod.c {γ : Type} (n : γ) (k : Int → γ) (a : Int) (b : Int) : γ := let t1 := IntKind.u64.wrap a; let t2 := IntKind.u64.wrap (b - 1); let t3 := IntKind.i64.wrap (a + 1); let t4 := IntKind.i64.wrap (0 - t3); let t5 := IntKind.u64.wrap t4; let t6 := IntKind.u64.wrap (t2 - t5.tmod b); word_Mod.c0 n k a b t1 t2 t3 t4 t5 t6
def word_Mod.ok (a : Int) (b : Int) : Bool := word_Mod.c false (fun _ => true) a b
def word_Mod (a : Int) (b : Int) : Int := word_Mod.c (0) id a b
def word_Mod.F : FV := mkF (cP (cI .i64) (cP (cI .u64) cU)) (fun _ => true) (fun | (a, (b, ())) => .int .u64 (word_Mod a b))
def L_word_Mod : TL := (50, word_Mod.F) :: L_word_Rem
theorem word_Mod.okt (a : Int) (b : Int) : word_Mod.ok a b = true := by
  unfold word_Mod.ok word_Mod.c word_Mod.c0; by_cases h : b = 0 <;> simp [h]
theorem word_Mod.p0 {γ : Type} (k : Int → γ) (a : Int) (b : Int) (t1 : Int) (t2 : Int) (t3 : Int) (t4 : Int) (t5 : Int) (t6 : Int) : word_Mod.c0 false (fun _ => true) a b t1 t2 t3 t4 t5 t6 = true → word_Mod.c0 none (fun q => some (k q)) a b t1 t2 t3 t4 t5 t6 = some (k (word_Mod.c0 (0) id a b t1 t2 t3 t4 t5 t6)) := by
  unfold word_Mod.c0; (repeat' (first | (apply pn k) | (exact pn_none _ _) | (exact pn_leaf k _)))
theorem word_Mod.p {γ : Type} (k : Int → γ) (a : Int) (b : Int) (h : word_Mod.ok a b = true) : word_Mod.c none (fun q => some (k q)) a b = some (k (word_Mod a b)) :=
  let t1 := IntKind.u64.wrap a; let t2 := IntKind.u64.wrap (b - 1); let t3 := IntKind.i64.wrap (a + 1); let t4 := IntKind.i64.wrap (0 - t3); let t5 := IntKind.u64.wrap t4; let t6 := IntKind.u64.wrap (t2 - t5.tmod b); word_Mod.p0 k a b t1 t2 t3 t4 t5 t6 h
theorem word_Mod.r (a : Int) (b : Int) : runF P GS (tab L_word_Rem) { merge := true } 60 Tryd.f50 [.int .i64 a, .int .u64 b] = word_Mod.c none (fun q => some (.int .u64 (q) : Value)) a b := by kernel_rfl
theorem word_Mod.t : TabOK P GS (tab L_word_Mod) :=
  TabOK_mk CS word_Rem.t Tryd.func50 (by kernel_rfl) true 60 (by
    rintro ⟨a, ⟨b, ⟨⟩⟩⟩ h
    exact (word_Mod.r a b).trans (word_Mod.p (fun q => (.int .u64 (q) : Value)) a b (word_Mod.okt a b)))

def word_Even.c0 {γ : Type} (k : Int → γ) (a : Int) (t1 : Int) : γ := k (andI IntKind.u64 a t1)
def word_Even.c {γ : Type} (k : Int → γ) (a : Int) : γ := let t1 := IntKind.u64.wrap (0 - a); word_Even.c0 k a t1
def word_Even (a : Int) : Int := word_Even.c id a
def word_Even.F : FV := mkF (cP (cI .u64) cU) (fun _ => true) (fun | (a, ()) => .int .u64 (word_Even a))
def L_word_Even : TL := (102, word_Even.F) :: L_word_Mod
theorem word_Even.p0 {γ : Type} (k : Int → γ) (a : Int) (t1 : Int) : word_Even.c0 k a t1 = k (word_Even.c0 id a t1) := by
  unfold word_Even.c0; (repeat' (first | (apply pc k) | (exact rfl)))
theorem word_Even.p {γ : Type} (k : Int → γ) (a : Int) : word_Even.c k a = k (word_Even a) :=
  let t1 := IntKind.u64.wrap (0 - a); word_Even.p0 k a t1
theorem word_Even.r (a : Int) : runF P GS (tab L_word_Mod) { merge := true } 60 Tryd.f102 [.int .u64 a] = word_Even.c (fun q => some (.int .u64 (q) : Value)) a := by kernel_rfl
theorem word_Even.t : TabOK P GS (tab L_word_Even) :=
  TabOK_mk CS word_Mod.t Tryd.func102 (by kernel_rfl) true 60 (by
    rintro ⟨a, ⟨⟩⟩ h
    exact (word_Even.r a).trans (word_Even.p (fun q => some (.int .u64 (q) : Value)) a))

end
end Go.Proofs.YtoggbmfjkcbilaaDoor.V
