/- What the functions of this seat compute, told by evaluation of their code. Conditions: none. -/
import Derived.Test.YtfcgmfefdgcmjaaDoorS3
set_option linter.unusedVariables false
set_option linter.unusedSimpArgs false
namespace Go.Proofs.YtfcgmfefdgcmjaaDoor.V
open Go Go.Wk
noncomputable section

def word_Add.c0 {γ : Type} (k : Int → γ) (a : Int) (b : Int) (t1 : Int) (t2 : Int) (t3 : Int) (t4 : Int) : γ := k (t4)
def word_Add.c {γ : Type} (k : Int → γ) (a : Int) (b : Int) : γ := let t1 := IntKind.u64.wrap a; let t2 := IntKind.u64.wrap b; let t3 := IntKind.u64.wrap (t1 + t2); let t4 := IntKind.i64.wrap t3; word_Add.c0 k a b t1 t2 t3 t4
def word_Add (a : Int) (b : Int) : Int := word_Add.c id a b
def word_Add.F : FV := mkF (cP (cI .i64) (cP (cI .i64) cU)) (fun _ => true) (fun | (a, (b, ())) => .int .i64 (word_Add a b))
def L_word_Add : TL := (16, word_Add.F) :: L_lib_FormatInt
theorem word_Add.p0 {γ : Type} (k : Int → γ) (a : Int) (b : Int) (t1 : Int) (t2 : Int) (t3 : Int) (t4 : Int) : word_Add.c0 k a b t1 t2 t3 t4 = k (word_Add.c0 id a b t1 t2 t3 t4) := by
  unfold word_Add.c0; (repeat' (first | (apply pc k) | (exact rfl)))
theorem word_Add.p {γ : Type} (k : Int → γ) (a : Int) (b : Int) : word_Add.c k a b = k (word_Add a b) :=
  let t1 := IntKind.u64.wrap a; let t2 := IntKind.u64.wrap b; let t3 := IntKind.u64.wrap (t1 + t2); let t4 := IntKind.i64.wrap t3; word_Add.p0 k a b t1 t2 t3 t4
theorem word_Add.r (a : Int) (b : Int) : runF P G (tab L_lib_FormatInt) { merge := true } 60 Tryd.f16 [.int .i64 a, .int .i64 b] = word_Add.c (fun q => some (.int .i64 (q) : Value)) a b := by kernel_rfl
theorem word_Add.t : TabOK P G (tab L_word_Add) :=
  TabOK_mk C lib_FormatInt.t Tryd.func16 (by kernel_rfl) true 60 (by
    rintro ⟨a, ⟨b, ⟨⟩⟩⟩ h
    exact (word_Add.r a b).trans (word_Add.p (fun q => some (.int .i64 (q) : Value)) a b))

def word_Sub.c0 {γ : Type} (k : Int → γ) (a : Int) (b : Int) (t1 : Int) (t2 : Int) (t3 : Int) (t4 : Int) : γ := k (t4)
def word_Sub.c {γ : Type} (k : Int → γ) (a : Int) (b : Int) : γ := let t1 := IntKind.u64.wrap a; let t2 := IntKind.u64.wrap b; let t3 := IntKind.u64.wrap (t1 - t2); let t4 := IntKind.i64.wrap t3; word_Sub.c0 k a b t1 t2 t3 t4
def word_Sub (a : Int) (b : Int) : Int := word_Sub.c id a b
def word_Sub.F : FV := mkF (cP (cI .i64) (cP (cI .i64) cU)) (fun _ => true) (fun | (a, (b, ())) => .int .i64 (word_Sub a b))
def L_word_Sub : TL := (15, word_Sub.F) :: L_word_Add
theorem word_Sub.p0 {γ : Type} (k : Int → γ) (a : Int) (b : Int) (t1 : Int) (t2 : Int) (t3 : Int) (t4 : Int) : word_Sub.c0 k a b t1 t2 t3 t4 = k (word_Sub.c0 id a b t1 t2 t3 t4) := by
  unfold word_Sub.c0; (repeat' (first | (apply pc k) | (exact rfl)))
theorem word_Sub.p {γ : Type} (k : Int → γ) (a : Int) (b : Int) : word_Sub.c k a b = k (word_Sub a b) :=
  let t1 := IntKind.u64.wrap a; let t2 := IntKind.u64.wrap b; let t3 := IntKind.u64.wrap (t1 - t2); let t4 := IntKind.i64.wrap t3; word_Sub.p0 k a b t1 t2 t3 t4
theorem word_Sub.r (a : Int) (b : Int) : runF P G (tab L_word_Add) { merge := true } 60 Tryd.f15 [.int .i64 a, .int .i64 b] = word_Sub.c (fun q => some (.int .i64 (q) : Value)) a b := by kernel_rfl
theorem word_Sub.t : TabOK P G (tab L_word_Sub) :=
  TabOK_mk C word_Add.t Tryd.func15 (by kernel_rfl) true 60 (by
    rintro ⟨a, ⟨b, ⟨⟩⟩⟩ h
    exact (word_Sub.r a b).trans (word_Sub.p (fun q => some (.int .i64 (q) : Value)) a b))

def word_Mul.c0 {γ : Type} (k : Int → γ) (a : Int) (b : Int) (t1 : Int) (t2 : Int) (t3 : Int) (t4 : Int) : γ := k (t4)
def word_Mul.c {γ : Type} (k : Int → γ) (a : Int) (b : Int) : γ := let t1 := IntKind.u64.wrap a; let t2 := IntKind.u64.wrap b; let t3 := IntKind.u64.wrap (t1 * t2); let t4 := IntKind.i64.wrap t3; word_Mul.c0 k a b t1 t2 t3 t4
def word_Mul (a : Int) (b : Int) : Int := word_Mul.c id a b
def word_Mul.F : FV := mkF (cP (cI .i64) (cP (cI .i64) cU)) (fun _ => true) (fun | (a, (b, ())) => .int .i64 (word_Mul a b))
def L_word_Mul : TL := (18, word_Mul.F) :: L_word_Sub
theorem word_Mul.p0 {γ : Type} (k : Int → γ) (a : Int) (b : Int) (t1 : Int) (t2 : Int) (t3 : Int) (t4 : Int) : word_Mul.c0 k a b t1 t2 t3 t4 = k (word_Mul.c0 id a b t1 t2 t3 t4) := by
  unfold word_Mul.c0; (repeat' (first | (apply pc k) | (exact rfl)))
theorem word_Mul.p {γ : Type} (k : Int → γ) (a : Int) (b : Int) : word_Mul.c k a b = k (word_Mul a b) :=
  let t1 := IntKind.u64.wrap a; let t2 := IntKind.u64.wrap b; let t3 := IntKind.u64.wrap (t1 * t2); let t4 := IntKind.i64.wrap t3; word_Mul.p0 k a b t1 t2 t3 t4
theorem word_Mul.r (a : Int) (b : Int) : runF P G (tab L_word_Sub) { merge := true } 60 Tryd.f18 [.int .i64 a, .int .i64 b] = word_Mul.c (fun q => some (.int .i64 (q) : Value)) a b := by kernel_rfl
theorem word_Mul.t : TabOK P G (tab L_word_Mul) :=
  TabOK_mk C word_Sub.t Tryd.func18 (by kernel_rfl) true 60 (by
    rintro ⟨a, ⟨b, ⟨⟩⟩⟩ h
    exact (word_Mul.r a b).trans (word_Mul.p (fun q => some (.int .i64 (q) : Value)) a b))

def word_Neg.c0 {γ : Type} (k : Int → γ) (a : Int) (t1 : Int) : γ := k (t1)
def word_Neg.c {γ : Type} (k : Int → γ) (a : Int) : γ := let t1 := word_Sub 0 a; word_Neg.c0 k a t1
def word_Neg (a : Int) : Int := word_Neg.c id a
def word_Neg.F : FV := mkF (cP (cI .i64) cU) (fun _ => true) (fun | (a, ()) => .int .i64 (word_Neg a))
def L_word_Neg : TL := (17, word_Neg.F) :: L_word_Mul
theorem word_Neg.p0 {γ : Type} (k : Int → γ) (a : Int) (t1 : Int) : word_Neg.c0 k a t1 = k (word_Neg.c0 id a t1) := by
  unfold word_Neg.c0; (repeat' (first | (apply pc k) | (exact rfl)))
theorem word_Neg.p {γ : Type} (k : Int → γ) (a : Int) : word_Neg.c k a = k (word_Neg a) :=
  let t1 := word_Sub 0 a; word_Neg.p0 k a t1
theorem word_Neg.r (a : Int) : runF P G (tab L_word_Mul) { merge := true } 60 Tryd.f17 [.int .i64 a] = word_Neg.c (fun q => some (.int .i64 (q) : Value)) a := by kernel_rfl
theorem word_Neg.t : TabOK P G (tab L_word_Neg) :=
  TabOK_mk C word_Mul.t Tryd.func17 (by kernel_rfl) true 60 (by
    rintro ⟨a, ⟨⟩⟩ h
    exact (word_Neg.r a).trans (word_Neg.p (fun q => some (.int .i64 (q) : Value)) a))

def word_Div.c0 {γ : Type} (n : γ) (k : Int × Bool → γ) (a : Int) (b : Int) (t1 : Int) (t2 : Int) : γ := bif b == 0
  then k (0, false)
  else bif b == -1
   then k (t1, true)
   else bif !decide (b = 0)
    then k (t2, true)
    else n
def word_Div.c {γ : Type} (n : γ) (k : Int × Bool → γ) (a : Int) (b : Int) : γ := let t1 := word_Neg a; let t2 := IntKind.i64.wrap (a.tdiv b); word_Div.c0 n k a b t1 t2
def word_Div.ok (a : Int) (b : Int) : Bool := word_Div.c false (fun _ => true) a b
def word_Div (a : Int) (b : Int) : Int × Bool := word_Div.c (0, false) id a b
def word_Div.F : FV := mkF (cP (cI .i64) (cP (cI .i64) cU)) (fun _ => true) (fun | (a, (b, ())) => .tuple #[.int .i64 (word_Div a b).1, .bool (word_Div a b).2])
def L_word_Div : TL := (21, word_Div.F) :: L_word_Neg
theorem word_Div.okt (a : Int) (b : Int) : word_Div.ok a b = true := by
  unfold word_Div.ok word_Div.c word_Div.c0; by_cases h : b = 0 <;> simp [h]
theorem word_Div.p0 {γ : Type} (k : Int × Bool → γ) (a : Int) (b : Int) (t1 : Int) (t2 : Int) : word_Div.c0 false (fun _ => true) a b t1 t2 = true → word_Div.c0 none (fun q => some (k q)) a b t1 t2 = some (k (word_Div.c0 (0, false) id a b t1 t2)) := by
  unfold word_Div.c0; (repeat' (first | (apply pn k) | (exact pn_none _ _) | (exact pn_leaf k _)))
theorem word_Div.p {γ : Type} (k : Int × Bool → γ) (a : Int) (b : Int) (h : word_Div.ok a b = true) : word_Div.c none (fun q => some (k q)) a b = some (k (word_Div a b)) :=
  let t1 := word_Neg a; let t2 := IntKind.i64.wrap (a.tdiv b); word_Div.p0 k a b t1 t2 h
theorem word_Div.r (a : Int) (b : Int) : runF P G (tab L_word_Neg) { merge := true } 60 Tryd.f21 [.int .i64 a, .int .i64 b] = word_Div.c none (fun q => some (.tuple #[.int .i64 (q).1, .bool (q).2] : Value)) a b := by kernel_rfl
theorem word_Div.t : TabOK P G (tab L_word_Div) :=
  TabOK_mk C word_Neg.t Tryd.func21 (by kernel_rfl) true 60 (by
    rintro ⟨a, ⟨b, ⟨⟩⟩⟩ h
    exact (word_Div.r a b).trans (word_Div.p (fun q => (.tuple #[.int .i64 (q).1, .bool (q).2] : Value)) a b (word_Div.okt a b)))

def word_Rem.c {γ : Type} (n : γ) (k : Int × Bool → γ) (a : Int) (b : Int) : γ := bif b == 0
  then k (0, false)
  else bif b == -1
   then k (0, true)
   else bif !decide (b = 0)
    then k (a.tmod b, true)
    else n
def word_Rem.ok (a : Int) (b : Int) : Bool := word_Rem.c false (fun _ => true) a b
def word_Rem (a : Int) (b : Int) : Int × Bool := word_Rem.c (0, false) id a b
def word_Rem.F : FV := mkF (cP (cI .i64) (cP (cI .i64) cU)) (fun _ => true) (fun | (a, (b, ())) => .tuple #[.int .i64 (word_Rem a b).1, .bool (word_Rem a b).2])
def L_word_Rem : TL := (22, word_Rem.F) :: L_word_Div
theorem word_Rem.okt (a : Int) (b : Int) : word_Rem.ok a b = true := by
  unfold word_Rem.ok word_Rem.c; by_cases h : b = 0 <;> simp [h]
theorem word_Rem.p {γ : Type} (k : Int × Bool → γ) (a : Int) (b : Int) (h : word_Rem.ok a b = true) : word_Rem.c none (fun q => some (k q)) a b = some (k (word_Rem a b)) := by
  revert h; unfold word_Rem word_Rem.ok word_Rem.c; (repeat' (first | (apply pn k) | (exact pn_none _ _) | (exact pn_leaf k _)))
theorem word_Rem.r (a : Int) (b : Int) : runF P G (tab L_word_Div) { merge := true } 60 Tryd.f22 [.int .i64 a, .int .i64 b] = word_Rem.c none (fun q => some (.tuple #[.int .i64 (q).1, .bool (q).2] : Value)) a b := by kernel_rfl
theorem word_Rem.t : TabOK P G (tab L_word_Rem) :=
  TabOK_mk C word_Div.t Tryd.func22 (by kernel_rfl) true 60 (by
    rintro ⟨a, ⟨b, ⟨⟩⟩⟩ h
    exact (word_Rem.r a b).trans (word_Rem.p (fun q => (.tuple #[.int .i64 (q).1, .bool (q).2] : Value)) a b (word_Rem.okt a b)))

def word_Mod.c0 {γ : Type} (n : γ) (k : Int → γ) (a : Int) (b : Int) (t1 : Int) (t2 : Int) (t3 : Int) (t4 : Int) (t5 : Int) (t6 : Int) : γ := bif b == 0
  then k (t1)
  else bif decide (a ≥ 0)
   then bif !decide (b = 0)
    then k (t1.tmod b)
    else n
   else bif !decide (b = 0)
    then k (t6)
    else n
def word_Mod.c {γ : Type} (n : γ) (k : Int → γ) (a : Int) (b : Int) : γ := let t1 := IntKind.u64.wrap a; let t2 := IntKind.u64.wrap (b - 1); let t3 := IntKind.i64.wrap (a + 1); let t4 := IntKind.i64.wrap (0 - t3); let t5 := IntKind.u64.wrap t4; let t6 := IntKind.u64.wrap (t2 - t5.tmod b); word_Mod.c0 n k a b t1 t2 t3 t4 t5 t6
def word_Mod.ok (a : Int) (b : Int) : Bool := word_Mod.c false (fun _ => true) a b
def word_Mod (a : Int) (b : Int) : Int := word_Mod.c (0) id a b
def word_Mod.F : FV := mkF (cP (cI .i64) (cP (cI .u64) cU)) (fun _ => true) (fun | (a, (b, ())) => .int .u64 (word_Mod a b))
def L_word_Mod : TL := (14, word_Mod.F) :: L_word_Rem
theorem word_Mod.okt (a : Int) (b : Int) : word_Mod.ok a b = true := by
  unfold word_Mod.ok word_Mod.c word_Mod.c0; by_cases h : b = 0 <;> simp [h]
theorem word_Mod.p0 {γ : Type} (k : Int → γ) (a : Int) (b : Int) (t1 : Int) (t2 : Int) (t3 : Int) (t4 : Int) (t5 : Int) (t6 : Int) : word_Mod.c0 false (fun _ => true) a b t1 t2 t3 t4 t5 t6 = true → word_Mod.c0 none (fun q => some (k q)) a b t1 t2 t3 t4 t5 t6 = some (k (word_Mod.c0 (0) id a b t1 t2 t3 t4 t5 t6)) := by
  unfold word_Mod.c0; (repeat' (first | (apply pn k) | (exact pn_none _ _) | (exact pn_leaf k _)))
theorem word_Mod.p {γ : Type} (k : Int → γ) (a : Int) (b : Int) (h : word_Mod.ok a b = true) : word_Mod.c none (fun q => some (k q)) a b = some (k (word_Mod a b)) :=
  let t1 := IntKind.u64.wrap a; let t2 := IntKind.u64.wrap (b - 1); let t3 := IntKind.i64.wrap (a + 1); let t4 := IntKind.i64.wrap (0 - t3); let t5 := IntKind.u64.wrap t4; let t6 := IntKind.u64.wrap (t2 - t5.tmod b); word_Mod.p0 k a b t1 t2 t3 t4 t5 t6 h
theorem word_Mod.r (a : Int) (b : Int) : runF P G (tab L_word_Rem) { merge := true } 60 Tryd.f14 [.int .i64 a, .int .u64 b] = word_Mod.c none (fun q => some (.int .u64 (q) : Value)) a b := by kernel_rfl
theorem word_Mod.t : TabOK P G (tab L_word_Mod) :=
  TabOK_mk C word_Rem.t Tryd.func14 (by kernel_rfl) true 60 (by
    rintro ⟨a, ⟨b, ⟨⟩⟩⟩ h
    exact (word_Mod.r a b).trans (word_Mod.p (fun q => (.int .u64 (q) : Value)) a b (word_Mod.okt a b)))

def word_Even.c0 {γ : Type} (k : Int → γ) (a : Int) (t1 : Int) : γ := k (andI IntKind.u64 a t1)
def word_Even.c {γ : Type} (k : Int → γ) (a : Int) : γ := let t1 := IntKind.u64.wrap (0 - a); word_Even.c0 k a t1
def word_Even (a : Int) : Int := word_Even.c id a
def word_Even.F : FV := mkF (cP (cI .u64) cU) (fun _ => true) (fun | (a, ()) => .int .u64 (word_Even a))
def L_word_Even : TL := (13, word_Even.F) :: L_word_Mod
theorem word_Even.p0 {γ : Type} (k : Int → γ) (a : Int) (t1 : Int) : word_Even.c0 k a t1 = k (word_Even.c0 id a t1) := by
  unfold word_Even.c0; (repeat' (first | (apply pc k) | (exact rfl)))
theorem word_Even.p {γ : Type} (k : Int → γ) (a : Int) : word_Even.c k a = k (word_Even a) :=
  let t1 := IntKind.u64.wrap (0 - a); word_Even.p0 k a t1
theorem word_Even.r (a : Int) : runF P G (tab L_word_Mod) { merge := true } 60 Tryd.f13 [.int .u64 a] = word_Even.c (fun q => some (.int .u64 (q) : Value)) a := by kernel_rfl
theorem word_Even.t : TabOK P G (tab L_word_Even) :=
  TabOK_mk C word_Mod.t Tryd.func13 (by kernel_rfl) true 60 (by
    rintro ⟨a, ⟨⟩⟩ h
    exact (word_Even.r a).trans (word_Even.p (fun q => some (.int .u64 (q) : Value)) a))

def word_Gcd.val (q : Int) : Value := .int .u64 (q)
def word_Gcd.h : List (Nat × List Nat × Nat) := [(1, [0, 1], 0)]
def word_Gcd.e0 (q : Int × Int) : St := { tmps := [.val (.int .u64 (q).1), .val (.int .u64 (q).2), .unk, .unk, .unk, .unk, .unk, .unk, .unk, .unk, .unk, .unk], blks := [], saved := [] }
noncomputable def word_Gcd.B0 : Code := loopAt [1, 0, 0] (fbody Tryd.f12)
noncomputable def word_Gcd.H (F0 : LSum) : Heads := { heads := word_Gcd.h, merge := true, sums := [(1, F0)] }
noncomputable def word_Gcd.H0  : Heads := { heads := word_Gcd.h, merge := true, sums := [] }
noncomputable def word_Gcd.K0 (F0 : LSum) : Xt → St → Option Value := kAt P G (tab L_word_Even) (word_Gcd.H F0) [1, 0, 0] 60 (fbody Tryd.f12) (retK P G Tryd.f12)
def word_Gcd.l0.c {γ : Type} (k0 : Int × Int → Option γ) (k : Int → Option γ) (s0 : Int) (s1 : Int) : Option γ := bif s1 != 0
  then bif !decide (s1 = 0)
   then k0 (s1, s0.tmod s1)
   else none
  else k (s0)
def word_Gcd.c {γ : Type} (k0 : Int × Int → Option γ) (k : Int → Option γ) (a : Int) (b : Int) : Option γ := k0 (a, b)
def word_Gcd.L0 (N : Nat)  : Nat → Int × Int → Option (Int)
  | 0, _ => none
  | m + 1, q => word_Gcd.l0.c (word_Gcd.L0 N m) some (q).1 (q).2
def word_Gcd.o (N : Nat) (a : Int) (b : Int) : Option (Int) := word_Gcd.c (word_Gcd.L0 N  N) some a b
noncomputable def word_Gcd.S0 (N : Nat) : LSum := sumN P G (tab L_word_Even) (word_Gcd.H0 ) 60 word_Gcd.B0 N
theorem word_Gcd.l0.p {γ δ : Type} (f : γ → δ) (k0 : Int × Int → Option γ) (k : Int → Option γ) (s0 : Int) (s1 : Int) : word_Gcd.l0.c (fun q => (k0 q).map f) (fun q => (k q).map f) s0 s1 = (word_Gcd.l0.c k0 k s0 s1).map f := by
  unfold word_Gcd.l0.c; (repeat' (first | (apply pm f) | (exact rfl)))
theorem word_Gcd.p {γ δ : Type} (f : γ → δ) (k0 : Int × Int → Option γ) (k : Int → Option γ) (a : Int) (b : Int) : word_Gcd.c (fun q => (k0 q).map f) (fun q => (k q).map f) a b = (word_Gcd.c k0 k a b).map f := by
  unfold word_Gcd.c; (repeat' (first | (apply pm f) | (exact rfl)))
theorem word_Gcd.S0.ok (N : Nat) : LoopsOK P G (word_Gcd.H0 ).sums word_Gcd.B0 := by
  refine LoopsOK_code fun i hi F hF => ?_
  have hlen : (loopsOf word_Gcd.B0).length = 0 := by kernel_rfl
  rw [hlen] at hi
  omega

theorem word_Gcd.S0.snd (N : Nat) : SoundL P G word_Gcd.B0 (word_Gcd.S0 N) := sumN_sound C.mixed C.names word_Even.t (word_Gcd.S0.ok N) N
theorem word_Gcd.l0.r (F0 G0 : LSum) (s0 : Int) (s1 : Int) : ex P G (tab L_word_Even) (word_Gcd.H0 ) 60 word_Gcd.B0 (word_Gcd.e0 (s0, s1)) (roundK (word_Gcd.H0 ) word_Gcd.B0 G0 (word_Gcd.K0 F0)) = word_Gcd.l0.c (fun q => G0.run (word_Gcd.e0 q) (word_Gcd.K0 F0)) (fun q => some (word_Gcd.val q)) s0 s1 := by kernel_rfl
theorem word_Gcd.r (F0 : LSum) (a : Int) (b : Int) : runF P G (tab L_word_Even) (word_Gcd.H F0) 60 Tryd.f12 [.int .u64 a, .int .u64 b] = word_Gcd.c (fun q => F0.run (word_Gcd.e0 q) (word_Gcd.K0 F0)) (fun q => some (word_Gcd.val q)) a b := by kernel_rfl
theorem word_Gcd.L0.ok (N : Nat) (F0 : LSum)   : ∀ m q, (sumN P G (tab L_word_Even) (word_Gcd.H0 ) 60 word_Gcd.B0 m).run (word_Gcd.e0 q) (word_Gcd.K0 F0) = (word_Gcd.L0 N  m q).map word_Gcd.val
  | 0, q => rfl
  | m + 1, q => by
    have ih := word_Gcd.L0.ok N F0   m
    refine (sumN_run (n := m) rfl).trans ((word_Gcd.l0.r F0 (sumN P G (tab L_word_Even) (word_Gcd.H0 ) 60 word_Gcd.B0 m) (q).1 (q).2).trans ?_)
    refine Eq.trans ?_ (word_Gcd.l0.p word_Gcd.val (word_Gcd.L0 N m) some (q).1 (q).2)
    have e0 : (fun q => (sumN P G (tab L_word_Even) (word_Gcd.H0 ) 60 word_Gcd.B0 m).run (word_Gcd.e0 q) (word_Gcd.K0 F0)) = (fun q => ((word_Gcd.L0 N m) q).map word_Gcd.val) := funext ih
    rw [e0]; rfl

theorem word_Gcd.q (N : Nat) (a : Int) (b : Int) : runF P G (tab L_word_Even) (word_Gcd.H (word_Gcd.S0 N)) 60 Tryd.f12 [.int .u64 a, .int .u64 b] = (word_Gcd.o N a b).map word_Gcd.val := by
  have hk0 := word_Gcd.L0.ok N (word_Gcd.S0 N)   N
  refine (word_Gcd.r (word_Gcd.S0 N) a b).trans ?_
  refine Eq.trans ?_ (word_Gcd.p word_Gcd.val (word_Gcd.L0 N  N) some a b)
  have e0 : (fun q => (word_Gcd.S0 N).run (word_Gcd.e0 q) (word_Gcd.K0 (word_Gcd.S0 N))) = (fun q => ((word_Gcd.L0 N  N) q).map word_Gcd.val) := funext hk0
  rw [e0]; rfl

theorem word_Gcd.lok (N : Nat) : LoopsOK P G (word_Gcd.H (word_Gcd.S0 N)).sums (fbody Tryd.f12) := by
  refine LoopsOK_code fun i hi F hF => ?_
  have hlen : (loopsOf (fbody Tryd.f12)).length = 1 := by kernel_rfl
  rw [hlen] at hi
  match i, hi with
  | 0, _ => exact soundAt (B' := word_Gcd.B0) (by kernel_rfl) (by kernel_rfl) (word_Gcd.S0.snd N) hF
  | _ + 1, h => omega

def word_Gcd (a : Int) (b : Int) : Int := hide ((word_Gcd.o (b.toNat + 2) a b).getD (0))
def word_Gcd.g (a : Int) (b : Int) : Bool := hide (word_Gcd.o (b.toNat + 2) a b).isSome
theorem word_Gcd.s (a : Int) (b : Int) (h : word_Gcd.g a b = true) : word_Gcd.o (b.toNat + 2) a b = some (word_Gcd a b) := by
  unfold word_Gcd.g at h; unfold word_Gcd; simp only [hide_eq] at h ⊢; revert h; cases word_Gcd.o (b.toNat + 2) a b <;> simp
def word_Gcd.F : FV := mkF (cP (cI .u64) (cP (cI .u64) cU)) (fun | (a, (b, ())) => word_Gcd.g a b) (fun | (a, (b, ())) => word_Gcd.val (word_Gcd a b))
def L_word_Gcd : TL := (12, word_Gcd.F) :: L_word_Even
theorem word_Gcd.t : TabOK P G (tab L_word_Gcd) :=
  TabOK_mkH C word_Even.t Tryd.func12 (by kernel_rfl) (fun | (_, (b, ())) => word_Gcd.H (word_Gcd.S0 (b.toNat + 2))) (by rintro ⟨a, ⟨b, ⟨⟩⟩⟩; exact word_Gcd.lok _) 60 (by
    rintro ⟨a, ⟨b, ⟨⟩⟩⟩ h
    exact (word_Gcd.q (b.toNat + 2) a b).trans (congrArg (Option.map word_Gcd.val) (word_Gcd.s a b h)))

def bits_Mul64.c0 {γ : Type} (k : Int × Int → γ) (a : Int) (b : Int) (t1 : Int) (t2 : Int) (t3 : Int) (t4 : Int) (t5 : Int) (t6 : Int) (t7 : Int) (t8 : Int) (t9 : Int) : γ := k (t8, t9)
def bits_Mul64.c {γ : Type} (k : Int × Int → γ) (a : Int) (b : Int) : γ := let t1 := IntKind.u64.wrap (a.fdiv (2 ^ min (Int.toNat 32) IntKind.u64.bits) * b.fdiv (2 ^ min (Int.toNat 32) IntKind.u64.bits)); let t2 := IntKind.u64.wrap (a.fdiv (2 ^ min (Int.toNat 32) IntKind.u64.bits) * andI IntKind.u64 b 4294967295); let t3 := IntKind.u64.wrap (andI IntKind.u64 a 4294967295 * andI IntKind.u64 b 4294967295); let t4 := IntKind.u64.wrap (t2 + t3.fdiv (2 ^ min (Int.toNat 32) IntKind.u64.bits)); let t5 := IntKind.u64.wrap (t1 + t4.fdiv (2 ^ min (Int.toNat 32) IntKind.u64.bits)); let t6 := IntKind.u64.wrap (andI IntKind.u64 a 4294967295 * b.fdiv (2 ^ min (Int.toNat 32) IntKind.u64.bits)); let t7 := IntKind.u64.wrap (andI IntKind.u64 t4 4294967295 + t6); let t8 := IntKind.u64.wrap (t5 + t7.fdiv (2 ^ min (Int.toNat 32) IntKind.u64.bits)); let t9 := IntKind.u64.wrap (a * b); bits_Mul64.c0 k a b t1 t2 t3 t4 t5 t6 t7 t8 t9
def bits_Mul64 (a : Int) (b : Int) : Int × Int := bits_Mul64.c id a b
def bits_Mul64.F : FV := mkF (cP (cI .u64) (cP (cI .u64) cU)) (fun _ => true) (fun | (a, (b, ())) => .tuple #[.int .u64 (bits_Mul64 a b).1, .int .u64 (bits_Mul64 a b).2])
def L_bits_Mul64 : TL := (41, bits_Mul64.F) :: L_word_Gcd
theorem bits_Mul64.p0 {γ : Type} (k : Int × Int → γ) (a : Int) (b : Int) (t1 : Int) (t2 : Int) (t3 : Int) (t4 : Int) (t5 : Int) (t6 : Int) (t7 : Int) (t8 : Int) (t9 : Int) : bits_Mul64.c0 k a b t1 t2 t3 t4 t5 t6 t7 t8 t9 = k (bits_Mul64.c0 id a b t1 t2 t3 t4 t5 t6 t7 t8 t9) := by
  unfold bits_Mul64.c0; (repeat' (first | (apply pc k) | (exact rfl)))
theorem bits_Mul64.p {γ : Type} (k : Int × Int → γ) (a : Int) (b : Int) : bits_Mul64.c k a b = k (bits_Mul64 a b) :=
  let t1 := IntKind.u64.wrap (a.fdiv (2 ^ min (Int.toNat 32) IntKind.u64.bits) * b.fdiv (2 ^ min (Int.toNat 32) IntKind.u64.bits)); let t2 := IntKind.u64.wrap (a.fdiv (2 ^ min (Int.toNat 32) IntKind.u64.bits) * andI IntKind.u64 b 4294967295); let t3 := IntKind.u64.wrap (andI IntKind.u64 a 4294967295 * andI IntKind.u64 b 4294967295); let t4 := IntKind.u64.wrap (t2 + t3.fdiv (2 ^ min (Int.toNat 32) IntKind.u64.bits)); let t5 := IntKind.u64.wrap (t1 + t4.fdiv (2 ^ min (Int.toNat 32) IntKind.u64.bits)); let t6 := IntKind.u64.wrap (andI IntKind.u64 a 4294967295 * b.fdiv (2 ^ min (Int.toNat 32) IntKind.u64.bits)); let t7 := IntKind.u64.wrap (andI IntKind.u64 t4 4294967295 + t6); let t8 := IntKind.u64.wrap (t5 + t7.fdiv (2 ^ min (Int.toNat 32) IntKind.u64.bits)); let t9 := IntKind.u64.wrap (a * b); bits_Mul64.p0 k a b t1 t2 t3 t4 t5 t6 t7 t8 t9
theorem bits_Mul64.r (a : Int) (b : Int) : runF P G (tab L_word_Gcd) { merge := true } 60 Tryd.f41 [.int .u64 a, .int .u64 b] = bits_Mul64.c (fun q => some (.tuple #[.int .u64 (q).1, .int .u64 (q).2] : Value)) a b := by kernel_rfl
theorem bits_Mul64.t : TabOK P G (tab L_bits_Mul64) :=
  TabOK_mk C word_Gcd.t Tryd.func41 (by kernel_rfl) true 60 (by
    rintro ⟨a, ⟨b, ⟨⟩⟩⟩ h
    exact (bits_Mul64.r a b).trans (bits_Mul64.p (fun q => some (.tuple #[.int .u64 (q).1, .int .u64 (q).2] : Value)) a b))

def word_Wide.c0 {γ : Type} (k : Int × Int → γ) (a : Int) (b : Int) (t1 : Int) (t2 : Int) (t3 : Int × Int) (t4 : Int) (t5 : Int) (t6 : Int) (t7 : Int) (t8 : Int) : γ := k (t8, t3.snd)
def word_Wide.c {γ : Type} (k : Int × Int → γ) (a : Int) (b : Int) : γ := let t1 := IntKind.u64.wrap a; let t2 := IntKind.u64.wrap b; let t3 := bits_Mul64 t1 t2; let t4 := IntKind.u64.wrap (t3.fst - t2); let t5 := bif decide (a < 0) then t4 else t3.fst; let t6 := IntKind.u64.wrap (t5 - t1); let t7 := bif decide (b < 0) then t6 else t5; let t8 := IntKind.i64.wrap t7; word_Wide.c0 k a b t1 t2 t3 t4 t5 t6 t7 t8
def word_Wide (a : Int) (b : Int) : Int × Int := word_Wide.c id a b
def word_Wide.F : FV := mkF (cP (cI .i64) (cP (cI .i64) cU)) (fun _ => true) (fun | (a, (b, ())) => .tuple #[.int .i64 (word_Wide a b).1, .int .u64 (word_Wide a b).2])
def L_word_Wide : TL := (19, word_Wide.F) :: L_bits_Mul64
theorem word_Wide.p0 {γ : Type} (k : Int × Int → γ) (a : Int) (b : Int) (t1 : Int) (t2 : Int) (t3 : Int × Int) (t4 : Int) (t5 : Int) (t6 : Int) (t7 : Int) (t8 : Int) : word_Wide.c0 k a b t1 t2 t3 t4 t5 t6 t7 t8 = k (word_Wide.c0 id a b t1 t2 t3 t4 t5 t6 t7 t8) := by
  unfold word_Wide.c0; (repeat' (first | (apply pc k) | (exact rfl)))
theorem word_Wide.p {γ : Type} (k : Int × Int → γ) (a : Int) (b : Int) : word_Wide.c k a b = k (word_Wide a b) :=
  let t1 := IntKind.u64.wrap a; let t2 := IntKind.u64.wrap b; let t3 := bits_Mul64 t1 t2; let t4 := IntKind.u64.wrap (t3.fst - t2); let t5 := bif decide (a < 0) then t4 else t3.fst; let t6 := IntKind.u64.wrap (t5 - t1); let t7 := bif decide (b < 0) then t6 else t5; let t8 := IntKind.i64.wrap t7; word_Wide.p0 k a b t1 t2 t3 t4 t5 t6 t7 t8
theorem word_Wide.r (a : Int) (b : Int) : runF P G (tab L_bits_Mul64) { merge := true, glue := true } 60 Tryd.f19 [.int .i64 a, .int .i64 b] = word_Wide.c (fun q => some (.tuple #[.int .i64 (q).1, .int .u64 (q).2] : Value)) a b := by kernel_rfl
theorem word_Wide.t : TabOK P G (tab L_word_Wide) :=
  TabOK_mkL C bits_Mul64.t Tryd.func19 (by kernel_rfl) { merge := true, glue := true } (fun c _ => LoopsOK_nil c) 60 (by
    rintro ⟨a, ⟨b, ⟨⟩⟩⟩ h
    exact (word_Wide.r a b).trans (word_Wide.p (fun q => some (.tuple #[.int .i64 (q).1, .int .u64 (q).2] : Value)) a b))

def word_Print.c {γ : Type} (n : γ) (k : ByteArray → γ) (a : Int) : γ := bif a == -9223372036854775808
  then k ({ data := #[45, 57, 50, 50, 51, 51, 55, 50, 48, 51, 54, 56, 53, 52, 55, 55, 53, 56, 48, 56] })
  else bif decide (a = -12) && decide (10 = 10)
   then k (txtA)
   else n
def word_Print.ok (a : Int) : Bool := word_Print.c false (fun _ => true) a
def word_Print (a : Int) : ByteArray := word_Print.c (ByteArray.empty) id a
def word_Print.F : FV := mkF (cP (cI .i64) cU) (fun | (a, ()) => word_Print.ok a) (fun | (a, ()) => .string (word_Print a))
def L_word_Print : TL := (9, word_Print.F) :: L_word_Wide
theorem word_Print.p {γ : Type} (k : ByteArray → γ) (a : Int) (h : word_Print.ok a = true) : word_Print.c none (fun q => some (k q)) a = some (k (word_Print a)) := by
  revert h; unfold word_Print word_Print.ok word_Print.c; (repeat' (first | (apply pn k) | (exact pn_none _ _) | (exact pn_leaf k _)))
theorem word_Print.r (a : Int) : runF P G (tab L_word_Wide) { merge := true, glue := true } 60 Tryd.f9 [.int .i64 a] = word_Print.c none (fun q => some (.string (q) : Value)) a := by kernel_rfl
theorem word_Print.t : TabOK P G (tab L_word_Print) :=
  TabOK_mkL C word_Wide.t Tryd.func9 (by kernel_rfl) { merge := true, glue := true } (fun c _ => LoopsOK_nil c) 60 (by
    rintro ⟨a, ⟨⟩⟩ h
    exact (word_Print.r a).trans (word_Print.p (fun q => (.string (q) : Value)) a h))

def law_taken.c0 {γ : Type} (n : γ) (k : Bool → γ)  (t1 : Bool) (t2 : Int) (t3 : Int) (t4 : Bool) (t5 : Int × Bool) (t6 : Bool) (t7 : Bool) (t8 : Bool) (t9 : Bool) (t10 : Bool) (t11 : Bool) (t12 : Int) (t13 : Bool) (t14 : Int) (t15 : Bool) : γ := bif (t1 || !(t9 && true)) && ((t10 || !(t11 && true)) && true)
  then k (t15)
  else n
def law_taken.c {γ : Type} (n : γ) (k : Bool → γ)  : γ := let t1 := word_Print.ok (-12); let t2 := word_Add 2 3; let t3 := word_Mul (-3) 4; let t4 := bif t2 == 5 then t3 == -12 else false; let t5 := word_Div (-7) 2; let t6 := bif t4 then t5.fst == -3 else false; let t7 := bif t6 then t5.snd else false; let t8 := bif t7 then -12 == -12 else false; let t9 := bif t8 then 0 == 0 else false; let t10 := word_Gcd.g 12 18; let t11 := bif t9 then (word_Print (-12)).toList == txtA.toList else false; let t12 := word_Gcd 12 18; let t13 := bif t11 then t12 == 6 else false; let t14 := word_Mod (-7) 3; let t15 := bif t13 then t14 == 2 else false; law_taken.c0 n k  t1 t2 t3 t4 t5 t6 t7 t8 t9 t10 t11 t12 t13 t14 t15
def law_taken.ok  : Bool := law_taken.c false (fun _ => true) 
def law_taken  : Bool := law_taken.c (false) id 
def law_taken.F : FV := mkF cU (fun | () => law_taken.ok ) (fun | () => .bool (law_taken))
def L_law_taken : TL := (11, law_taken.F) :: L_word_Print
theorem law_taken.p0 {γ : Type} (k : Bool → γ)  (t1 : Bool) (t2 : Int) (t3 : Int) (t4 : Bool) (t5 : Int × Bool) (t6 : Bool) (t7 : Bool) (t8 : Bool) (t9 : Bool) (t10 : Bool) (t11 : Bool) (t12 : Int) (t13 : Bool) (t14 : Int) (t15 : Bool) : law_taken.c0 false (fun _ => true)  t1 t2 t3 t4 t5 t6 t7 t8 t9 t10 t11 t12 t13 t14 t15 = true → law_taken.c0 none (fun q => some (k q))  t1 t2 t3 t4 t5 t6 t7 t8 t9 t10 t11 t12 t13 t14 t15 = some (k (law_taken.c0 (false) id  t1 t2 t3 t4 t5 t6 t7 t8 t9 t10 t11 t12 t13 t14 t15)) := by
  unfold law_taken.c0; (repeat' (first | (apply pn k) | (exact pn_none _ _) | (exact pn_leaf k _)))
theorem law_taken.p {γ : Type} (k : Bool → γ) (h : law_taken.ok = true) : law_taken.c none (fun q => some (k q)) = some (k (law_taken)) := by
  revert h; unfold law_taken.ok law_taken law_taken.c; exact fun h => law_taken.p0 k _ _ _ _ _ _ _ _ _ _ _ _ _ _ _ h
theorem law_taken.r  : runF P G (tab L_word_Print) { merge := true, glue := true } 60 Tryd.f11 [] = law_taken.c none (fun q => some (.bool (q) : Value))  := by kernel_rfl
theorem law_taken.t : TabOK P G (tab L_law_taken) :=
  TabOK_mkL C word_Print.t Tryd.func11 (by kernel_rfl) { merge := true, glue := true } (fun c _ => LoopsOK_nil c) 60 (by
    rintro ⟨⟩ h
    exact (law_taken.r ).trans (law_taken.p (fun q => (.bool (q) : Value))  h))

end
end Go.Proofs.YtfcgmfefdgcmjaaDoor.V
