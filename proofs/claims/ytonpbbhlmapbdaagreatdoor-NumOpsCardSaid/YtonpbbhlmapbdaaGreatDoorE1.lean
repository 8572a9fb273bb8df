/- What the functions of this seat compute, told by evaluation of their code. Conditions: none. -/
import Derived.Test.YtonpbbhlmapbdaaGreatDoorB
set_option linter.unusedVariables false
set_option linter.unusedSimpArgs false
namespace Go.Proofs.YtonpbbhlmapbdaaGreatDoor.V
open Go Go.Wk
noncomputable section
def word_Add.c0 {γ : Type} (k : Int → γ) (a : Int) (b : Int) (t1 : Int) (t2 : Int) (t3 : Int) (t4 : Int) : γ := k (t4)
def word_Add.c {γ : Type} (k : Int → γ) (a : Int) (b : Int) : γ := let t1 := IntKind.u64.wrap a; let t2 := IntKind.u64.wrap b; let t3 := IntKind.u64.wrap (t1 + t2); let t4 := IntKind.i64.wrap t3; word_Add.c0 k a b t1 t2 t3 t4
def word_Add (a : Int) (b : Int) : Int := word_Add.c id a b
def word_Add.F : FV := mkF (cP (cI .i64) (cP (cI .i64) cU)) (fun _ => true) (fun | (a, (b, ())) => .int .i64 (word_Add a b))
def L_word_Add : TL := (202, word_Add.F) :: []
theorem word_Add.p0 {γ : Type} (k : Int → γ) (a : Int) (b : Int) (t1 : Int) (t2 : Int) (t3 : Int) (t4 : Int) : word_Add.c0 k a b t1 t2 t3 t4 = k (word_Add.c0 id a b t1 t2 t3 t4) := by
  unfold word_Add.c0; (repeat' (first | (apply pc k) | (exact rfl)))
theorem word_Add.p {γ : Type} (k : Int → γ) (a : Int) (b : Int) : word_Add.c k a b = k (word_Add a b) :=
  let t1 := IntKind.u64.wrap a; let t2 := IntKind.u64.wrap b; let t3 := IntKind.u64.wrap (t1 + t2); let t4 := IntKind.i64.wrap t3; word_Add.p0 k a b t1 t2 t3 t4
theorem word_Add.r (a : Int) (b : Int) : runF P G (tab []) { merge := true } 60 Tryz.f202 [.int .i64 a, .int .i64 b] = word_Add.c (fun q => some (.int .i64 (q) : Value)) a b := by kernel_rfl
theorem word_Add.t : TabOK P G (tab L_word_Add) :=
  TabOK_mk C TabOK_nil Tryz.func202 (by kernel_rfl) true 60 (by
    rintro ⟨a, ⟨b, ⟨⟩⟩⟩ h
    exact (word_Add.r a b).trans (word_Add.p (fun q => some (.int .i64 (q) : Value)) a b))
def word_Sub.c0 {γ : Type} (k : Int → γ) (a : Int) (b : Int) (t1 : Int) (t2 : Int) (t3 : Int) (t4 : Int) : γ := k (t4)
def word_Sub.c {γ : Type} (k : Int → γ) (a : Int) (b : Int) : γ := let t1 := IntKind.u64.wrap a; let t2 := IntKind.u64.wrap b; let t3 := IntKind.u64.wrap (t1 - t2); let t4 := IntKind.i64.wrap t3; word_Sub.c0 k a b t1 t2 t3 t4
def word_Sub (a : Int) (b : Int) : Int := word_Sub.c id a b
def word_Sub.F : FV := mkF (cP (cI .i64) (cP (cI .i64) cU)) (fun _ => true) (fun | (a, (b, ())) => .int .i64 (word_Sub a b))
def L_word_Sub : TL := (206, word_Sub.F) :: L_word_Add
theorem word_Sub.p0 {γ : Type} (k : Int → γ) (a : Int) (b : Int) (t1 : Int) (t2 : Int) (t3 : Int) (t4 : Int) : word_Sub.c0 k a b t1 t2 t3 t4 = k (word_Sub.c0 id a b t1 t2 t3 t4) := by
  unfold word_Sub.c0; (repeat' (first | (apply pc k) | (exact rfl)))
theorem word_Sub.p {γ : Type} (k : Int → γ) (a : Int) (b : Int) : word_Sub.c k a b = k (word_Sub a b) :=
  let t1 := IntKind.u64.wrap a; let t2 := IntKind.u64.wrap b; let t3 := IntKind.u64.wrap (t1 - t2); let t4 := IntKind.i64.wrap t3; word_Sub.p0 k a b t1 t2 t3 t4
theorem word_Sub.r (a : Int) (b : Int) : runF P G (tab L_word_Add) { merge := true } 60 Tryz.f206 [.int .i64 a, .int .i64 b] = word_Sub.c (fun q => some (.int .i64 (q) : Value)) a b := by kernel_rfl
theorem word_Sub.t : TabOK P G (tab L_word_Sub) :=
  TabOK_mk C word_Add.t Tryz.func206 (by kernel_rfl) true 60 (by
    rintro ⟨a, ⟨b, ⟨⟩⟩⟩ h
    exact (word_Sub.r a b).trans (word_Sub.p (fun q => some (.int .i64 (q) : Value)) a b))
def word_Mul.c0 {γ : Type} (k : Int → γ) (a : Int) (b : Int) (t1 : Int) (t2 : Int) (t3 : Int) (t4 : Int) : γ := k (t4)
def word_Mul.c {γ : Type} (k : Int → γ) (a : Int) (b : Int) : γ := let t1 := IntKind.u64.wrap a; let t2 := IntKind.u64.wrap b; let t3 := IntKind.u64.wrap (t1 * t2); let t4 := IntKind.i64.wrap t3; word_Mul.c0 k a b t1 t2 t3 t4
def word_Mul (a : Int) (b : Int) : Int := word_Mul.c id a b
def word_Mul.F : FV := mkF (cP (cI .i64) (cP (cI .i64) cU)) (fun _ => true) (fun | (a, (b, ())) => .int .i64 (word_Mul a b))
def L_word_Mul : TL := (212, word_Mul.F) :: L_word_Sub
theorem word_Mul.p0 {γ : Type} (k : Int → γ) (a : Int) (b : Int) (t1 : Int) (t2 : Int) (t3 : Int) (t4 : Int) : word_Mul.c0 k a b t1 t2 t3 t4 = k (word_Mul.c0 id a b t1 t2 t3 t4) := by
  unfold word_Mul.c0; (repeat' (first | (apply pc k) | (exact rfl)))
theorem word_Mul.p {γ : Type} (k : Int → γ) (a : Int) (b : Int) : word_Mul.c k a b = k (word_Mul a b) :=
  let t1 := IntKind.u64.wrap a; let t2 := IntKind.u64.wrap b; let t3 := IntKind.u64.wrap (t1 * t2); let t4 := IntKind.i64.wrap t3; word_Mul.p0 k a b t1 t2 t3 t4
theorem word_Mul.r (a : Int) (b : Int) : runF P G (tab L_word_Sub) { merge := true } 60 Tryz.f212 [.int .i64 a, .int .i64 b] = word_Mul.c (fun q => some (.int .i64 (q) : Value)) a b := by kernel_rfl
theorem word_Mul.t : TabOK P G (tab L_word_Mul) :=
  TabOK_mk C word_Sub.t Tryz.func212 (by kernel_rfl) true 60 (by
    rintro ⟨a, ⟨b, ⟨⟩⟩⟩ h
    exact (word_Mul.r a b).trans (word_Mul.p (fun q => some (.int .i64 (q) : Value)) a b))
def word_Neg.c0 {γ : Type} (k : Int → γ) (a : Int) (t1 : Int) : γ := k (t1)
def word_Neg.c {γ : Type} (k : Int → γ) (a : Int) : γ := let t1 := word_Sub 0 a; word_Neg.c0 k a t1
def word_Neg (a : Int) : Int := word_Neg.c id a
def word_Neg.F : FV := mkF (cP (cI .i64) cU) (fun _ => true) (fun | (a, ()) => .int .i64 (word_Neg a))
def L_word_Neg : TL := (198, word_Neg.F) :: L_word_Mul
theorem word_Neg.p0 {γ : Type} (k : Int → γ) (a : Int) (t1 : Int) : word_Neg.c0 k a t1 = k (word_Neg.c0 id a t1) := by
  unfold word_Neg.c0; (repeat' (first | (apply pc k) | (exact rfl)))
theorem word_Neg.p {γ : Type} (k : Int → γ) (a : Int) : word_Neg.c k a = k (word_Neg a) :=
  let t1 := word_Sub 0 a; word_Neg.p0 k a t1
theorem word_Neg.r (a : Int) : runF P G (tab L_word_Mul) { merge := true } 60 Tryz.f198 [.int .i64 a] = word_Neg.c (fun q => some (.int .i64 (q) : Value)) a := by kernel_rfl
theorem word_Neg.t : TabOK P G (tab L_word_Neg) :=
  TabOK_mk C word_Mul.t Tryz.func198 (by kernel_rfl) true 60 (by
    rintro ⟨a, ⟨⟩⟩ h
    exact (word_Neg.r a).trans (word_Neg.p (fun q => some (.int .i64 (q) : Value)) a))
def word_Div.c0 {γ : Type} (n : γ) (k : Int × Bool → γ) (a : Int) (b : Int) (t1 : Int) (t2 : Int) : γ := bif b == 0
  then k (0, false)
  else bif b == -1
   then k (t1, true)
   else bif !decide (b = 0)
    then k (t2, true)
    else n
def word_Div.c {γ : Type} (n : γ) (k : Int × Bool → γ) (a : Int) (b : Int) : γ := let t1 := word_Neg a; let t2 := IntKind.i64.wrap (a.tdiv b); word_Div.c0 n k a b t1 t2
def word_Div.ok (a : Int) (b : Int) : Bool := word_Div.c false (fun _ => true) a b
def word_Div (a : Int) (b : Int) : Int × Bool := word_Div.c (0, false) id a b
def word_Div.F : FV := mkF (cP (cI .i64) (cP (cI .i64) cU)) (fun _ => true) (fun | (a, (b, ())) => .tuple #[.int .i64 (word_Div a b).1, .bool (word_Div a b).2])
def L_word_Div : TL := (220, word_Div.F) :: L_word_Neg
theorem word_Div.okt (a : Int) (b : Int) : word_Div.ok a b = true := by
  unfold word_Div.ok word_Div.c word_Div.c0; by_cases h : b = 0 <;> simp [h]
theorem word_Div.p0 {γ : Type} (k : Int × Bool → γ) (a : Int) (b : Int) (t1 : Int) (t2 : Int) : word_Div.c0 false (fun _ => true) a b t1 t2 = true → word_Div.c0 none (fun q => some (k q)) a b t1 t2 = some (k (word_Div.c0 (0, false) id a b t1 t2)) := by
  unfold word_Div.c0; (repeat' (first | (apply pn k) | (exact pn_none _ _) | (exact pn_leaf k _)))
theorem word_Div.p {γ : Type} (k : Int × Bool → γ) (a : Int) (b : Int) (h : word_Div.ok a b = true) : word_Div.c none (fun q => some (k q)) a b = some (k (word_Div a b)) :=
  let t1 := word_Neg a; let t2 := IntKind.i64.wrap (a.tdiv b); word_Div.p0 k a b t1 t2 h
theorem word_Div.r (a : Int) (b : Int) : runF P G (tab L_word_Neg) { merge := true } 60 Tryz.f220 [.int .i64 a, .int .i64 b] = word_Div.c none (fun q => some (.tuple #[.int .i64 (q).1, .bool (q).2] : Value)) a b := by kernel_rfl
theorem word_Div.t : TabOK P G (tab L_word_Div) :=
  TabOK_mk C word_Neg.t Tryz.func220 (by kernel_rfl) true 60 (by
    rintro ⟨a, ⟨b, ⟨⟩⟩⟩ h
    exact (word_Div.r a b).trans (word_Div.p (fun q => (.tuple #[.int .i64 (q).1, .bool (q).2] : Value)) a b (word_Div.okt a b)))
def word_Rem.c {γ : Type} (n : γ) (k : Int × Bool → γ) (a : Int) (b : Int) : γ := bif b == 0
  then k (0, false)
  else bif b == -1
   then k (0, true)
   else bif !decide (b = 0)
    then k (a.tmod b, true)
    else n
def word_Rem.ok (a : Int) (b : Int) : Bool := word_Rem.c false (fun _ => true) a b
def word_Rem (a : Int) (b : Int) : Int × Bool := word_Rem.c (0, false) id a b
def word_Rem.F : FV := mkF (cP (cI .i64) (cP (cI .i64) cU)) (fun _ => true) (fun | (a, (b, ())) => .tuple #[.int .i64 (word_Rem a b).1, .bool (word_Rem a b).2])
def L_word_Rem : TL := (223, word_Rem.F) :: L_word_Div
theorem word_Rem.okt (a : Int) (b : Int) : word_Rem.ok a b = true := by
  unfold word_Rem.ok word_Rem.c; by_cases h : b = 0 <;> simp [h]
theorem word_Rem.p {γ : Type} (k : Int × Bool → γ) (a : Int) (b : Int) (h : word_Rem.ok a b = true) : word_Rem.c none (fun q => some (k q)) a b = some (k (word_Rem a b)) := by
  revert h; unfold word_Rem word_Rem.ok word_Rem.c; (repeat' (first | (apply pn k) | (exact pn_none _ _) | (exact pn_leaf k _)))
theorem word_Rem.r (a : Int) (b : Int) : runF P G (tab L_word_Div) { merge := true } 60 Tryz.f223 [.int .i64 a, .int .i64 b] = word_Rem.c none (fun q => some (.tuple #[.int .i64 (q).1, .bool (q).2] : Value)) a b := by kernel_rfl
theorem word_Rem.t : TabOK P G (tab L_word_Rem) :=
  TabOK_mk C word_Div.t Tryz.func223 (by kernel_rfl) true 60 (by
    rintro ⟨a, ⟨b, ⟨⟩⟩⟩ h
    exact (word_Rem.r a b).trans (word_Rem.p (fun q => (.tuple #[.int .i64 (q).1, .bool (q).2] : Value)) a b (word_Rem.okt a b)))
def word_Mod.c0 {γ : Type} (n : γ) (k : Int → γ) (a : Int) (b : Int) (t1 : Int) (t2 : Int) (t3 : Int) (t4 : Int) (t5 : Int) (t6 : Int) : γ := bif b == 0
  then k (t1)
  else bif decide (a ≥ 0)
   then bif !decide (b = 0)
    then k (t1.tmod b)
    else n
   else bif !decide (b = 0)
    then k (t6)
    else n
def word_Mod.c {γ : Type} (n : γ) (k : Int → γ) (a : Int) (b : Int) : γ := let t1 := IntKind.u64.wrap a; let t2 := IntKind.u64.wrap (b - 1); let t3 := IntKind.i64.wrap (a + 1); let t4 := IntKind.i64.wrap (0 - t3); let t5 := IntKind.u64.wrap t4; let t6 := IntKind.u64.wrap (t2 - t5.tmod b); word_Mod.c0 n k a b t1 t2 t3 t4 t5 t6
def word_Mod.ok (a : Int) (b : Int) : Bool := word_Mod.c false (fun _ => true) a b
def word_Mod (a : Int) (b : Int) : Int := word_Mod.c (0) id a b
def word_Mod.F : FV := mkF (cP (cI .i64) (cP (cI .u64) cU)) (fun _ => true) (fun | (a, (b, ())) => .int .u64 (word_Mod a b))
def L_word_Mod : TL := (136, word_Mod.F) :: L_word_Rem
theorem word_Mod.okt (a : Int) (b : Int) : word_Mod.ok a b = true := by
  unfold word_Mod.ok word_Mod.c word_Mod.c0; by_cases h : b = 0 <;> simp [h]
theorem word_Mod.p0 {γ : Type} (k : Int → γ) (a : Int) (b : Int) (t1 : Int) (t2 : Int) (t3 : Int) (t4 : Int) (t5 : Int) (t6 : Int) : word_Mod.c0 false (fun _ => true) a b t1 t2 t3 t4 t5 t6 = true → word_Mod.c0 none (fun q => some (k q)) a b t1 t2 t3 t4 t5 t6 = some (k (word_Mod.c0 (0) id a b t1 t2 t3 t4 t5 t6)) := by
  unfold word_Mod.c0; (repeat' (first | (apply pn k) | (exact pn_none _ _) | (exact pn_leaf k _)))
theorem word_Mod.p {γ : Type} (k : Int → γ) (a : Int) (b : Int) (h : word_Mod.ok a b = true) : word_Mod.c none (fun q => some (k q)) a b = some (k (word_Mod a b)) :=
  let t1 := IntKind.u64.wrap a; let t2 := IntKind.u64.wrap (b - 1); let t3 := IntKind.i64.wrap (a + 1); let t4 := IntKind.i64.wrap (0 - t3); let t5 := IntKind.u64.wrap t4; let t6 := IntKind.u64.wrap (t2 - t5.tmod b); word_Mod.p0 k a b t1 t2 t3 t4 t5 t6 h
theorem word_Mod.r (a : Int) (b : Int) : runF P G (tab L_word_Rem) { merge := true } 60 Tryz.f136 [.int .i64 a, .int .u64 b] = word_Mod.c none (fun q => some (.int .u64 (q) : Value)) a b := by kernel_rfl
theorem word_Mod.t : TabOK P G (tab L_word_Mod) :=
  TabOK_mk C word_Rem.t Tryz.func136 (by kernel_rfl) true 60 (by
    rintro ⟨a, ⟨b, ⟨⟩⟩⟩ h
    exact (word_Mod.r a b).trans (word_Mod.p (fun q => (.int .u64 (q) : Value)) a b (word_Mod.okt a b)))
def word_Even.c0 {γ : Type} (k : Int → γ) (a : Int) (t1 : Int) : γ := k (andI IntKind.u64 a t1)
def word_Even.c {γ : Type} (k : Int → γ) (a : Int) : γ := let t1 := IntKind.u64.wrap (0 - a); word_Even.c0 k a t1
def word_Even (a : Int) : Int := word_Even.c id a
def word_Even.F : FV := mkF (cP (cI .u64) cU) (fun _ => true) (fun | (a, ()) => .int .u64 (word_Even a))
def L_word_Even : TL := (263, word_Even.F) :: L_word_Mod
theorem word_Even.p0 {γ : Type} (k : Int → γ) (a : Int) (t1 : Int) : word_Even.c0 k a t1 = k (word_Even.c0 id a t1) := by
  unfold word_Even.c0; (repeat' (first | (apply pc k) | (exact rfl)))
theorem word_Even.p {γ : Type} (k : Int → γ) (a : Int) : word_Even.c k a = k (word_Even a) :=
  let t1 := IntKind.u64.wrap (0 - a); word_Even.p0 k a t1
theorem word_Even.r (a : Int) : runF P G (tab L_word_Mod) { merge := true } 60 Tryz.f263 [.int .u64 a] = word_Even.c (fun q => some (.int .u64 (q) : Value)) a := by kernel_rfl
theorem word_Even.t : TabOK P G (tab L_word_Even) :=
  TabOK_mk C word_Mod.t Tryz.func263 (by kernel_rfl) true 60 (by
    rintro ⟨a, ⟨⟩⟩ h
    exact (word_Even.r a).trans (word_Even.p (fun q => some (.int .u64 (q) : Value)) a))
def word_Gcd.val (q : Int) : Value := .int .u64 (q)
def word_Gcd.h : List (Nat × List Nat × Nat) := [(1, [0, 1], 0)]
def word_Gcd.e0 (q : Int × Int) : St := { tmps := [.val (.int .u64 (q).1), .val (.int .u64 (q).2), .unk, .unk, .unk, .unk, .unk, .unk, .unk, .unk, .unk, .unk], blks := [], saved := [] }
noncomputable def word_Gcd.B0 : Code := loopAt [1, 0, 0] (fbody Tryz.f227)
noncomputable def word_Gcd.H (F0 : LSum) : Heads := { heads := word_Gcd.h, merge := true, sums := [(1, F0)] }
noncomputable def word_Gcd.H0  : Heads := { heads := word_Gcd.h, merge := true, sums := [] }
noncomputable def word_Gcd.K0 (F0 : LSum) : Xt → St → Option Value := kAt P G (tab L_word_Even) (word_Gcd.H F0) [1, 0, 0] 60 (fbody Tryz.f227) (retK P G Tryz.f227)
def word_Gcd.l0.c {γ : Type} (k0 : Int × Int → Option γ) (k : Int → Option γ) (s0 : Int) (s1 : Int) : Option γ := bif s1 != 0
  then bif !decide (s1 = 0)
   then k0 (s1, s0.tmod s1)
   else none
  else k (s0)
def word_Gcd.c {γ : Type} (k0 : Int × Int → Option γ) (k : Int → Option γ) (a : Int) (b : Int) : Option γ := k0 (a, b)
def word_Gcd.L0 (N : Nat)  : Nat → Int × Int → Option (Int)
  | 0, _ => none
  | m + 1, q => word_Gcd.l0.c (word_Gcd.L0 N m) some (q).1 (q).2
def word_Gcd.o (N : Nat) (a : Int) (b : Int) : Option (Int) := word_Gcd.c (word_Gcd.L0 N  N) some a b
noncomputable def word_Gcd.S0 (N : Nat) : LSum := sumN P G (tab L_word_Even) (word_Gcd.H0 ) 60 word_Gcd.B0 N
theorem word_Gcd.l0.p {γ δ : Type} (f : γ → δ) (k0 : Int × Int → Option γ) (k : Int → Option γ) (s0 : Int) (s1 : Int) : word_Gcd.l0.c (fun q => (k0 q).map f) (fun q => (k q).map f) s0 s1 = (word_Gcd.l0.c k0 k s0 s1).map f := by
  unfold word_Gcd.l0.c; (repeat' (first | (apply pm f) | (exact rfl)))
theorem word_Gcd.p {γ δ : Type} (f : γ → δ) (k0 : Int × Int → Option γ) (k : Int → Option γ) (a : Int) (b : Int) : word_Gcd.c (fun q => (k0 q).map f) (fun q => (k q).map f) a b = (word_Gcd.c k0 k a b).map f := by
  unfold word_Gcd.c; (repeat' (first | (apply pm f) | (exact rfl)))
theorem word_Gcd.S0.ok (N : Nat) : LoopsOK P G (word_Gcd.H0 ).sums word_Gcd.B0 := by
  refine LoopsOK_code fun i hi F hF => ?_
  have hlen : (loopsOf word_Gcd.B0).length = 0 := by kernel_rfl
  rw [hlen] at hi
  omega
theorem word_Gcd.S0.snd (N : Nat) : SoundL P G word_Gcd.B0 (word_Gcd.S0 N) := sumN_sound C.mixed C.names word_Even.t (word_Gcd.S0.ok N) N
theorem word_Gcd.l0.r (F0 G0 : LSum) (s0 : Int) (s1 : Int) : ex P G (tab L_word_Even) (word_Gcd.H0 ) 60 word_Gcd.B0 (word_Gcd.e0 (s0, s1)) (roundK (word_Gcd.H0 ) word_Gcd.B0 G0 (word_Gcd.K0 F0)) = word_Gcd.l0.c (fun q => G0.run (word_Gcd.e0 q) (word_Gcd.K0 F0)) (fun q => some (word_Gcd.val q)) s0 s1 := by kernel_rfl
theorem word_Gcd.r (F0 : LSum) (a : Int) (b : Int) : runF P G (tab L_word_Even) (word_Gcd.H F0) 60 Tryz.f227 [.int .u64 a, .int .u64 b] = word_Gcd.c (fun q => F0.run (word_Gcd.e0 q) (word_Gcd.K0 F0)) (fun q => some (word_Gcd.val q)) a b := by kernel_rfl
theorem word_Gcd.L0.ok (N : Nat) (F0 : LSum)   : ∀ m q, (sumN P G (tab L_word_Even) (word_Gcd.H0 ) 60 word_Gcd.B0 m).run (word_Gcd.e0 q) (word_Gcd.K0 F0) = (word_Gcd.L0 N  m q).map word_Gcd.val
  | 0, q => rfl
  | m + 1, q => by
    have ih := word_Gcd.L0.ok N F0   m
    refine (sumN_run (n := m) rfl).trans ((word_Gcd.l0.r F0 (sumN P G (tab L_word_Even) (word_Gcd.H0 ) 60 word_Gcd.B0 m) (q).1 (q).2).trans ?_)
    refine Eq.trans ?_ (word_Gcd.l0.p word_Gcd.val (word_Gcd.L0 N m) some (q).1 (q).2)
    have e0 : (fun q => (sumN P G (tab L_word_Even) (word_Gcd.H0 ) 60 word_Gcd.B0 m).run (word_Gcd.e0 q) (word_Gcd.K0 F0)) = (fun q => ((word_Gcd.L0 N m) q).map word_Gcd.val) := funext ih
    rw [e0]; rfl
theorem word_Gcd.q (N : Nat) (a : Int) (b : Int) : runF P G (tab L_word_Even) (word_Gcd.H (word_Gcd.S0 N)) 60 Tryz.f227 [.int .u64 a, .int .u64 b] = (word_Gcd.o N a b).map word_Gcd.val := by
  have hk0 := word_Gcd.L0.ok N (word_Gcd.S0 N)   N
  refine (word_Gcd.r (word_Gcd.S0 N) a b).trans ?_
  refine Eq.trans ?_ (word_Gcd.p word_Gcd.val (word_Gcd.L0 N  N) some a b)
  have e0 : (fun q => (word_Gcd.S0 N).run (word_Gcd.e0 q) (word_Gcd.K0 (word_Gcd.S0 N))) = (fun q => ((word_Gcd.L0 N  N) q).map word_Gcd.val) := funext hk0
  rw [e0]; rfl
theorem word_Gcd.lok (N : Nat) : LoopsOK P G (word_Gcd.H (word_Gcd.S0 N)).sums (fbody Tryz.f227) := by
  refine LoopsOK_code fun i hi F hF => ?_
  have hlen : (loopsOf (fbody Tryz.f227)).length = 1 := by kernel_rfl
  rw [hlen] at hi
  match i, hi with
  | 0, _ => exact soundAt (B' := word_Gcd.B0) (by kernel_rfl) (by kernel_rfl) (word_Gcd.S0.snd N) hF
  | _ + 1, h => omega
def word_Gcd (a : Int) (b : Int) : Int := hide ((word_Gcd.o (b.toNat + 2) a b).getD (0))
def word_Gcd.g (a : Int) (b : Int) : Bool := hide (word_Gcd.o (b.toNat + 2) a b).isSome
theorem word_Gcd.s (a : Int) (b : Int) (h : word_Gcd.g a b = true) : word_Gcd.o (b.toNat + 2) a b = some (word_Gcd a b) := by
  unfold word_Gcd.g at h; unfold word_Gcd; simp only [hide_eq] at h ⊢; revert h; cases word_Gcd.o (b.toNat + 2) a b <;> simp
def word_Gcd.F : FV := mkF (cP (cI .u64) (cP (cI .u64) cU)) (fun | (a, (b, ())) => word_Gcd.g a b) (fun | (a, (b, ())) => word_Gcd.val (word_Gcd a b))
def L_word_Gcd : TL := (227, word_Gcd.F) :: L_word_Even
theorem word_Gcd.t : TabOK P G (tab L_word_Gcd) :=
  TabOK_mkH C word_Even.t Tryz.func227 (by kernel_rfl) (fun | (_, (b, ())) => word_Gcd.H (word_Gcd.S0 (b.toNat + 2))) (by rintro ⟨a, ⟨b, ⟨⟩⟩⟩; exact word_Gcd.lok _) 60 (by
    rintro ⟨a, ⟨b, ⟨⟩⟩⟩ h
    exact (word_Gcd.q (b.toNat + 2) a b).trans (congrArg (Option.map word_Gcd.val) (word_Gcd.s a b h)))
def bits_Mul64.c0 {γ : Type} (k : Int × Int → γ) (a : Int) (b : Int) (t1 : Int) (t2 : Int) (t3 : Int) (t4 : Int) (t5 : Int) (t6 : Int) (t7 : Int) (t8 : Int) (t9 : Int) : γ := k (t8, t9)
def bits_Mul64.c {γ : Type} (k : Int × Int → γ) (a : Int) (b : Int) : γ := let t1 := IntKind.u64.wrap (a.fdiv (2 ^ min (Int.toNat 32) IntKind.u64.bits) * b.fdiv (2 ^ min (Int.toNat 32) IntKind.u64.bits)); let t2 := IntKind.u64.wrap (a.fdiv (2 ^ min (Int.toNat 32) IntKind.u64.bits) * andI IntKind.u64 b 4294967295); let t3 := IntKind.u64.wrap (andI IntKind.u64 a 4294967295 * andI IntKind.u64 b 4294967295); let t4 := IntKind.u64.wrap (t2 + t3.fdiv (2 ^ min (Int.toNat 32) IntKind.u64.bits)); let t5 := IntKind.u64.wrap (t1 + t4.fdiv (2 ^ min (Int.toNat 32) IntKind.u64.bits)); let t6 := IntKind.u64.wrap (andI IntKind.u64 a 4294967295 * b.fdiv (2 ^ min (Int.toNat 32) IntKind.u64.bits)); let t7 := IntKind.u64.wrap (andI IntKind.u64 t4 4294967295 + t6); let t8 := IntKind.u64.wrap (t5 + t7.fdiv (2 ^ min (Int.toNat 32) IntKind.u64.bits)); let t9 := IntKind.u64.wrap (a * b); bits_Mul64.c0 k a b t1 t2 t3 t4 t5 t6 t7 t8 t9
def bits_Mul64 (a : Int) (b : Int) : Int × Int := bits_Mul64.c id a b
def bits_Mul64.F : FV := mkF (cP (cI .u64) (cP (cI .u64) cU)) (fun _ => true) (fun | (a, (b, ())) => .tuple #[.int .u64 (bits_Mul64 a b).1, .int .u64 (bits_Mul64 a b).2])
def L_bits_Mul64 : TL := (148, bits_Mul64.F) :: L_word_Gcd
theorem bits_Mul64.p0 {γ : Type} (k : Int × Int → γ) (a : Int) (b : Int) (t1 : Int) (t2 : Int) (t3 : Int) (t4 : Int) (t5 : Int) (t6 : Int) (t7 : Int) (t8 : Int) (t9 : Int) : bits_Mul64.c0 k a b t1 t2 t3 t4 t5 t6 t7 t8 t9 = k (bits_Mul64.c0 id a b t1 t2 t3 t4 t5 t6 t7 t8 t9) := by
  unfold bits_Mul64.c0; (repeat' (first | (apply pc k) | (exact rfl)))
theorem bits_Mul64.p {γ : Type} (k : Int × Int → γ) (a : Int) (b : Int) : bits_Mul64.c k a b = k (bits_Mul64 a b) :=
  let t1 := IntKind.u64.wrap (a.fdiv (2 ^ min (Int.toNat 32) IntKind.u64.bits) * b.fdiv (2 ^ min (Int.toNat 32) IntKind.u64.bits)); let t2 := IntKind.u64.wrap (a.fdiv (2 ^ min (Int.toNat 32) IntKind.u64.bits) * andI IntKind.u64 b 4294967295); let t3 := IntKind.u64.wrap (andI IntKind.u64 a 4294967295 * andI IntKind.u64 b 4294967295); let t4 := IntKind.u64.wrap (t2 + t3.fdiv (2 ^ min (Int.toNat 32) IntKind.u64.bits)); let t5 := IntKind.u64.wrap (t1 + t4.fdiv (2 ^ min (Int.toNat 32) IntKind.u64.bits)); let t6 := IntKind.u64.wrap (andI IntKind.u64 a 4294967295 * b.fdiv (2 ^ min (Int.toNat 32) IntKind.u64.bits)); let t7 := IntKind.u64.wrap (andI IntKind.u64 t4 4294967295 + t6); let t8 := IntKind.u64.wrap (t5 + t7.fdiv (2 ^ min (Int.toNat 32) IntKind.u64.bits)); let t9 := IntKind.u64.wrap (a * b); bits_Mul64.p0 k a b t1 t2 t3 t4 t5 t6 t7 t8 t9
theorem bits_Mul64.r (a : Int) (b : Int) : runF P G (tab L_word_Gcd) { merge := true } 60 Tryz.f148 [.int .u64 a, .int .u64 b] = bits_Mul64.c (fun q => some (.tuple #[.int .u64 (q).1, .int .u64 (q).2] : Value)) a b := by kernel_rfl
theorem bits_Mul64.t : TabOK P G (tab L_bits_Mul64) :=
  TabOK_mk C word_Gcd.t Tryz.func148 (by kernel_rfl) true 60 (by
    rintro ⟨a, ⟨b, ⟨⟩⟩⟩ h
    exact (bits_Mul64.r a b).trans (bits_Mul64.p (fun q => some (.tuple #[.int .u64 (q).1, .int .u64 (q).2] : Value)) a b))
def bits_Add64 (a b c : Int) : Int × Int := (hide ((a.toNat + b.toNat + c.toNat) % 18446744073709551616 : Nat), hide ((a.toNat + b.toNat + c.toNat) / 18446744073709551616 : Nat))
def bits_Add64.F : FV := mkF (cP (cI .u64) (cP (cI .u64) (cP (cI .u64) cU))) (fun | (a, (b, (c, ()))) => decide (c.toNat ≤ 1)) (fun | (a, (b, (c, ()))) => .tuple #[.int .u64 (bits_Add64 a b c).1, .int .u64 (bits_Add64 a b c).2])
def L_bits_Add64 : TL := (149, bits_Add64.F) :: L_bits_Mul64
theorem bits_Add64.x (a b c : Int) (hc : c.toNat ≤ 1) (w : World) : (addEntry #[.int .u64 a, .int .u64 b, .int .u64 c]).run P w = .ok (.tuple #[.int .u64 (bits_Add64 a b c).1, .int .u64 (bits_Add64 a b c).2]) w := by
  unfold addEntry
  rw [Sem.run_bind, three_run _ a b c hc w]
  unfold bits_Add64; simp only [hide_eq]; rfl
theorem bits_Add64.t : TabOK P G (tab L_bits_Add64) :=
  TabOK_ext bits_Mul64.t (by
    intro vs v w h
    obtain ⟨⟨a, b, c, _⟩, rfl, h1, rfl⟩ := mkF_inv h
    simp only [decide_eq_true_eq] at h1
    show (callFunc 149 #[.int .u64 a, .int .u64 b, .int .u64 c]).run P w = _
    rw [run_callFunc_extern Tryz.func149 (by kernel_rfl) (by kernel_rfl) (by kernel_rfl) (e := addEntry) (by kernel_rfl), bits_Add64.x a b c h1 w]
    rfl)
def bits_Sub64 (a b c : Int) : Int × Int := (hide ((a.toNat + 18446744073709551616 - b.toNat - c.toNat) % 18446744073709551616 : Nat), hide (if a.toNat < b.toNat + c.toNat then 1 else 0))
def bits_Sub64.F : FV := mkF (cP (cI .u64) (cP (cI .u64) (cP (cI .u64) cU))) (fun | (a, (b, (c, ()))) => decide (c.toNat ≤ 1)) (fun | (a, (b, (c, ()))) => .tuple #[.int .u64 (bits_Sub64 a b c).1, .int .u64 (bits_Sub64 a b c).2])
def L_bits_Sub64 : TL := (150, bits_Sub64.F) :: L_bits_Add64
theorem bits_Sub64.x (a b c : Int) (hc : c.toNat ≤ 1) (w : World) : (subEntry #[.int .u64 a, .int .u64 b, .int .u64 c]).run P w = .ok (.tuple #[.int .u64 (bits_Sub64 a b c).1, .int .u64 (bits_Sub64 a b c).2]) w := by
  unfold subEntry
  rw [Sem.run_bind, three_run _ a b c hc w]
  unfold bits_Sub64; simp only [hide_eq]
  by_cases h : a.toNat < b.toNat + c.toNat
  · simp only [if_pos h]; show Result.ok _ w = _; rw [if_pos h]; rfl
  · simp only [if_neg h]; show Result.ok _ w = _; rw [if_neg h]; rfl
theorem bits_Sub64.t : TabOK P G (tab L_bits_Sub64) :=
  TabOK_ext bits_Add64.t (by
    intro vs v w h
    obtain ⟨⟨a, b, c, _⟩, rfl, h1, rfl⟩ := mkF_inv h
    simp only [decide_eq_true_eq] at h1
    show (callFunc 150 #[.int .u64 a, .int .u64 b, .int .u64 c]).run P w = _
    rw [run_callFunc_extern Tryz.func150 (by kernel_rfl) (by kernel_rfl) (by kernel_rfl) (e := subEntry) (by kernel_rfl), bits_Sub64.x a b c h1 w]
    rfl)
def bits_Len64.c0 {γ : Type} (n : γ) (k : Int → γ) (a : Int) (t1 : Int) (t2 : Int) (t3 : Int) (t4 : Int) (t5 : Int) (t6 : Int) (t7 : Int) (t8 : Int) (t9 : Int) (t10 : Int) (t11 : Int) : γ := bif decide (0 ≤ t4) && decide (t4 < ↑len8tab.size)
  then k (t11)
  else n
def bits_Len64.c {γ : Type} (n : γ) (k : Int → γ) (a : Int) : γ := let t1 := bif decide (a ≥ 4294967296) then a.fdiv (2 ^ min (Int.toNat 32) IntKind.u64.bits) else a; let t2 := bif decide (t1 ≥ 65536) then t1.fdiv (2 ^ min (Int.toNat 16) IntKind.u64.bits) else t1; let t3 := bif decide (t2 ≥ 256) then t2.fdiv (2 ^ min (Int.toNat 8) IntKind.u64.bits) else t2; let t4 := IntKind.u8.wrap t3; let t5 := bif decide (a ≥ 4294967296) then 32 else 0; let t6 := IntKind.i64.wrap (t5 + 16); let t7 := bif decide (t1 ≥ 65536) then t6 else t5; let t8 := IntKind.i64.wrap (t7 + 8); let t9 := bif decide (t2 ≥ 256) then t8 else t7; let t10 := IntKind.i64.wrap (byteAt len8tab t4); let t11 := IntKind.i64.wrap (t9 + t10); bits_Len64.c0 n k a t1 t2 t3 t4 t5 t6 t7 t8 t9 t10 t11
def bits_Len64.ok (a : Int) : Bool := bits_Len64.c false (fun _ => true) a
def bits_Len64 (a : Int) : Int := bits_Len64.c (0) id a
def bits_Len64.F : FV := mkF (cP (cI .u64) cU) (fun _ => true) (fun | (a, ()) => .int .i64 (bits_Len64 a))
def L_bits_Len64 : TL := (266, bits_Len64.F) :: L_bits_Sub64
theorem bits_Len64.okt (a : Int) : bits_Len64.ok a = true := by
  unfold bits_Len64.ok bits_Len64.c bits_Len64.c0; simp only [u8i, cond_true, Bool.cond_self]
theorem bits_Len64.p0 {γ : Type} (k : Int → γ) (a : Int) (t1 : Int) (t2 : Int) (t3 : Int) (t4 : Int) (t5 : Int) (t6 : Int) (t7 : Int) (t8 : Int) (t9 : Int) (t10 : Int) (t11 : Int) : bits_Len64.c0 false (fun _ => true) a t1 t2 t3 t4 t5 t6 t7 t8 t9 t10 t11 = true → bits_Len64.c0 none (fun q => some (k q)) a t1 t2 t3 t4 t5 t6 t7 t8 t9 t10 t11 = some (k (bits_Len64.c0 (0) id a t1 t2 t3 t4 t5 t6 t7 t8 t9 t10 t11)) := by
  unfold bits_Len64.c0; (repeat' (first | (apply pn k) | (exact pn_none _ _) | (exact pn_leaf k _)))
theorem bits_Len64.p {γ : Type} (k : Int → γ) (a : Int) (h : bits_Len64.ok a = true) : bits_Len64.c none (fun q => some (k q)) a = some (k (bits_Len64 a)) :=
  let t1 := bif decide (a ≥ 4294967296) then a.fdiv (2 ^ min (Int.toNat 32) IntKind.u64.bits) else a; let t2 := bif decide (t1 ≥ 65536) then t1.fdiv (2 ^ min (Int.toNat 16) IntKind.u64.bits) else t1; let t3 := bif decide (t2 ≥ 256) then t2.fdiv (2 ^ min (Int.toNat 8) IntKind.u64.bits) else t2; let t4 := IntKind.u8.wrap t3; let t5 := bif decide (a ≥ 4294967296) then 32 else 0; let t6 := IntKind.i64.wrap (t5 + 16); let t7 := bif decide (t1 ≥ 65536) then t6 else t5; let t8 := IntKind.i64.wrap (t7 + 8); let t9 := bif decide (t2 ≥ 256) then t8 else t7; let t10 := IntKind.i64.wrap (byteAt len8tab t4); let t11 := IntKind.i64.wrap (t9 + t10); bits_Len64.p0 k a t1 t2 t3 t4 t5 t6 t7 t8 t9 t10 t11 h
theorem bits_Len64.r (a : Int) : runF P G (tab L_bits_Sub64) { merge := true } 60 Tryz.f266 [.int .u64 a] = bits_Len64.c none (fun q => some (.int .i64 (q) : Value)) a := by kernel_rfl
theorem bits_Len64.t : TabOK P G (tab L_bits_Len64) :=
  TabOK_mk C bits_Sub64.t Tryz.func266 (by kernel_rfl) true 60 (by
    rintro ⟨a, ⟨⟩⟩ h
    exact (bits_Len64.r a).trans (bits_Len64.p (fun q => (.int .i64 (q) : Value)) a (bits_Len64.okt a)))
def bits_LeadingZeros64.c0 {γ : Type} (k : Int → γ) (a : Int) (t1 : Int) (t2 : Int) : γ := k (t2)
def bits_LeadingZeros64.c {γ : Type} (k : Int → γ) (a : Int) : γ := let t1 := bits_Len64 a; let t2 := IntKind.i64.wrap (64 - t1); bits_LeadingZeros64.c0 k a t1 t2
def bits_LeadingZeros64 (a : Int) : Int := bits_LeadingZeros64.c id a
def bits_LeadingZeros64.F : FV := mkF (cP (cI .u64) cU) (fun _ => true) (fun | (a, ()) => .int .i64 (bits_LeadingZeros64 a))
def L_bits_LeadingZeros64 : TL := (265, bits_LeadingZeros64.F) :: L_bits_Len64
theorem bits_LeadingZeros64.p0 {γ : Type} (k : Int → γ) (a : Int) (t1 : Int) (t2 : Int) : bits_LeadingZeros64.c0 k a t1 t2 = k (bits_LeadingZeros64.c0 id a t1 t2) := by
  unfold bits_LeadingZeros64.c0; (repeat' (first | (apply pc k) | (exact rfl)))
theorem bits_LeadingZeros64.p {γ : Type} (k : Int → γ) (a : Int) : bits_LeadingZeros64.c k a = k (bits_LeadingZeros64 a) :=
  let t1 := bits_Len64 a; let t2 := IntKind.i64.wrap (64 - t1); bits_LeadingZeros64.p0 k a t1 t2
theorem bits_LeadingZeros64.r (a : Int) : runF P G (tab L_bits_Len64) { merge := true } 60 Tryz.f265 [.int .u64 a] = bits_LeadingZeros64.c (fun q => some (.int .i64 (q) : Value)) a := by kernel_rfl
theorem bits_LeadingZeros64.t : TabOK P G (tab L_bits_LeadingZeros64) :=
  TabOK_mk C bits_Len64.t Tryz.func265 (by kernel_rfl) true 60 (by
    rintro ⟨a, ⟨⟩⟩ h
    exact (bits_LeadingZeros64.r a).trans (bits_LeadingZeros64.p (fun q => some (.int .i64 (q) : Value)) a))
def bits_Div64.val (q : Int × Int) : Value := .tuple #[.int .u64 (q).1, .int .u64 (q).2]
def bits_Div64.h : List (Nat × List Nat × Nat) := [(17, [2, 8, 9, 10, 11, 13, 14, 15, 16], 0), (24, [2, 8, 9, 10, 14, 15, 16, 17, 18], 0)]
def bits_Div64.e0 (q : Int × Int × Int × Int × Int × Int × Int × Int × Int) : St := { tmps := [.unk, .unk, .val (.int .u64 (q).1), .unk, .unk, .unk, .unk, .unk, .val (.int .u64 (q).2.1), .val (.int .u64 (q).2.2.1), .val (.int .u64 (q).2.2.2.1), .val (.int .u64 (q).2.2.2.2.1), .unk, .val (.int .u64 (q).2.2.2.2.2.1), .val (.int .u64 (q).2.2.2.2.2.2.1), .val (.int .u64 (q).2.2.2.2.2.2.2.1), .val (.int .u64 (q).2.2.2.2.2.2.2.2), .unk, .unk, .unk, .unk, .unk, .unk, .unk, .unk, .unk, .unk, .unk, .unk, .unk, .unk, .unk, .unk, .unk, .unk, .unk, .unk, .unk, .unk, .unk, .unk, .unk, .unk, .unk, .unk, .unk, .unk, .unk, .unk, .unk, .unk, .unk, .unk, .unk, .unk, .unk, .unk, .unk, .unk, .unk, .unk, .unk, .unk, .unk, .unk, .unk, .unk, .unk, .unk, .unk, .unk, .unk, .unk, .unk, .unk, .unk, .unk, .unk, .unk, .unk, .unk, .unk, .unk, .unk, .unk, .unk, .unk, .unk, .unk, .unk, .unk, .unk, .unk, .unk, .unk, .unk, .unk, .unk, .unk, .unk, .unk, .unk, .unk, .unk, .unk, .unk, .unk, .unk, .unk, .unk, .unk, .unk, .unk, .unk, .unk, .unk, .unk, .unk, .unk, .unk, .unk, .unk, .unk, .unk, .unk, .unk, .unk, .unk, .unk, .unk, .unk, .unk, .unk, .unk, .unk], blks := [], saved := [] }
noncomputable def bits_Div64.B0 : Code := loopAt [1, 1, 1, 1, 1, 1, 1, 1, 1, 1, 1, 1, 1, 1, 0, 0] (fbody Tryz.f257)
def bits_Div64.e1 (q : Int × Int × Int × Int × Int × Int × Int × Int × Int) : St := { tmps := [.unk, .unk, .val (.int .u64 (q).1), .unk, .unk, .unk, .unk, .unk, .val (.int .u64 (q).2.1), .val (.int .u64 (q).2.2.1), .val (.int .u64 (q).2.2.2.1), .unk, .unk, .unk, .val (.int .u64 (q).2.2.2.2.1), .val (.int .u64 (q).2.2.2.2.2.1), .val (.int .u64 (q).2.2.2.2.2.2.1), .val (.int .u64 (q).2.2.2.2.2.2.2.1), .val (.int .u64 (q).2.2.2.2.2.2.2.2), .unk, .unk, .unk, .unk, .unk, .unk, .unk, .unk, .unk, .unk, .unk, .unk, .unk, .unk, .unk, .unk, .unk, .unk, .unk, .unk, .unk, .unk, .unk, .unk, .unk, .unk, .unk, .unk, .unk, .unk, .unk, .unk, .unk, .unk, .unk, .unk, .unk, .unk, .unk, .unk, .unk, .unk, .unk, .unk, .unk, .unk, .unk, .unk, .unk, .unk, .unk, .unk, .unk, .unk, .unk, .unk, .unk, .unk, .unk, .unk, .unk, .unk, .unk, .unk, .unk, .unk, .unk, .unk, .unk, .unk, .unk, .unk, .unk, .unk, .unk, .unk, .unk, .unk, .unk, .unk, .unk, .unk, .unk, .unk, .unk, .unk, .unk, .unk, .unk, .unk, .unk, .unk, .unk, .unk, .unk, .unk, .unk, .unk, .unk, .unk, .unk, .unk, .unk, .unk, .unk, .unk, .unk, .unk, .unk, .unk, .unk, .unk, .unk, .unk, .unk, .unk], blks := [], saved := [] }
noncomputable def bits_Div64.B1 : Code := loopAt [1, 1, 1, 1, 1, 1, 1, 1, 1, 1, 1, 1, 1, 1, 1, 1, 1, 1, 0, 0] (fbody Tryz.f257)
noncomputable def bits_Div64.H (F0 F1 : LSum) : Heads := { heads := bits_Div64.h, merge := true, sums := [(17, F0), (24, F1)] }
noncomputable def bits_Div64.H0  : Heads := { heads := bits_Div64.h, merge := true, sums := [] }
noncomputable def bits_Div64.H1  : Heads := { heads := bits_Div64.h, merge := true, sums := [] }
noncomputable def bits_Div64.K0 (F0 F1 : LSum) : Xt → St → Option Value := kAt P G (tab L_bits_LeadingZeros64) (bits_Div64.H F0 F1) [1, 1, 1, 1, 1, 1, 1, 1, 1, 1, 1, 1, 1, 1, 0, 0] 60 (fbody Tryz.f257) (retK P G Tryz.f257)
noncomputable def bits_Div64.K1 (F0 F1 : LSum) : Xt → St → Option Value := kAt P G (tab L_bits_LeadingZeros64) (bits_Div64.H F0 F1) [1, 1, 1, 1, 1, 1, 1, 1, 1, 1, 1, 1, 1, 1, 1, 1, 1, 1, 0, 0] 60 (fbody Tryz.f257) (retK P G Tryz.f257)
def bits_Div64.l0.c0 {γ : Type} (k0 : Int × Int × Int × Int × Int × Int × Int × Int × Int → Option γ) (k1 : Int × Int × Int × Int × Int × Int × Int × Int × Int → Option γ) (k : Int × Int → Option γ) (s2 : Int) (s8 : Int) (s9 : Int) (s10 : Int) (s11 : Int) (s13 : Int) (s14 : Int) (s15 : Int) (s16 : Int) (t1 : Int) (t2 : Int) (t3 : Int) (t4 : Int) (t5 : Int) (t6 : Int) (t7 : Int) (t8 : Int) (t9 : Int) (t10 : Int) (t11 : Int) (t12 : Int) (t13 : Int) (t14 : Int) (t15 : Int) (t16 : Int) (t17 : Int) : Option γ := bif decide (s15 ≥ 4294967296)
  then bif decide (t1 ≥ 4294967296)
   then bif !decide (s9 = 0)
    then k1 (s2, s8, s9, s10, s14, t2, t9, t6, t7)
    else none
   else k0 (s2, s8, s9, s10, s11, s13, s14, t2, t1)
  else bif decide (t10 > t12)
   then bif decide (t1 ≥ 4294967296)
    then bif !decide (s9 = 0)
     then k1 (s2, s8, s9, s10, s14, t2, t9, t6, t7)
     else none
    else k0 (s2, s8, s9, s10, s11, s13, s14, t2, t1)
   else bif !decide (s9 = 0)
    then k1 (s2, s8, s9, s10, s14, s15, t17, t14, t15)
    else none
def bits_Div64.l0.c {γ : Type} (k0 : Int × Int × Int × Int × Int × Int × Int × Int × Int → Option γ) (k1 : Int × Int × Int × Int × Int × Int × Int × Int × Int → Option γ) (k : Int × Int → Option γ) (s2 : Int) (s8 : Int) (s9 : Int) (s10 : Int) (s11 : Int) (s13 : Int) (s14 : Int) (s15 : Int) (s16 : Int) : Option γ := let t1 := IntKind.u64.wrap (s16 + s9); let t2 := IntKind.u64.wrap (s15 - 1); let t3 := IntKind.u64.wrap (s11 * 4294967296); let t4 := IntKind.u64.wrap (t3 + s13); let t5 := IntKind.u64.wrap (t2 * s2); let t6 := IntKind.u64.wrap (t4 - t5); let t7 := IntKind.u64.wrap (t6.tdiv s9); let t8 := IntKind.u64.wrap (t7 * s9); let t9 := IntKind.u64.wrap (t6 - t8); let t10 := IntKind.u64.wrap (s15 * s10); let t11 := IntKind.u64.wrap (4294967296 * s16); let t12 := IntKind.u64.wrap (t11 + s13); let t13 := IntKind.u64.wrap (s15 * s2); let t14 := IntKind.u64.wrap (t4 - t13); let t15 := IntKind.u64.wrap (t14.tdiv s9); let t16 := IntKind.u64.wrap (t15 * s9); let t17 := IntKind.u64.wrap (t14 - t16); bits_Div64.l0.c0 k0 k1 k s2 s8 s9 s10 s11 s13 s14 s15 s16 t1 t2 t3 t4 t5 t6 t7 t8 t9 t10 t11 t12 t13 t14 t15 t16 t17
def bits_Div64.l1.c0 {γ : Type} (k1 : Int × Int × Int × Int × Int × Int × Int × Int × Int → Option γ) (k : Int × Int → Option γ) (s2 : Int) (s8 : Int) (s9 : Int) (s10 : Int) (s14 : Int) (s15 : Int) (s16 : Int) (s17 : Int) (s18 : Int) (t1 : Int) (t2 : Int) (t3 : Int) (t4 : Int) (t5 : Int) (t6 : Int) (t7 : Int) (t8 : Int) (t9 : Int) (t10 : Int) (t11 : Int) (t12 : Int) (t13 : Int) (t14 : Int) : Option γ := bif decide (s18 ≥ 4294967296)
  then bif decide (t1 ≥ 4294967296)
   then bif !decide (s8 < 0)
    then k (t4, t8.fdiv (2 ^ min s8.toNat IntKind.u64.bits))
    else none
   else k1 (s2, s8, s9, s10, s14, s15, t1, s17, t3)
  else bif decide (t9 > t11)
   then bif decide (t1 ≥ 4294967296)
    then bif !decide (s8 < 0)
     then k (t4, t8.fdiv (2 ^ min s8.toNat IntKind.u64.bits))
     else none
    else k1 (s2, s8, s9, s10, s14, s15, t1, s17, t3)
   else bif !decide (s8 < 0)
    then k (t12, t14.fdiv (2 ^ min s8.toNat IntKind.u64.bits))
    else none
def bits_Div64.l1.c {γ : Type} (k1 : Int × Int × Int × Int × Int × Int × Int × Int × Int → Option γ) (k : Int × Int → Option γ) (s2 : Int) (s8 : Int) (s9 : Int) (s10 : Int) (s14 : Int) (s15 : Int) (s16 : Int) (s17 : Int) (s18 : Int) : Option γ := let t1 := IntKind.u64.wrap (s16 + s9); let t2 := IntKind.u64.wrap (s15 * 4294967296); let t3 := IntKind.u64.wrap (s18 - 1); let t4 := IntKind.u64.wrap (t2 + t3); let t5 := IntKind.u64.wrap (s17 * 4294967296); let t6 := IntKind.u64.wrap (t5 + s14); let t7 := IntKind.u64.wrap (t3 * s2); let t8 := IntKind.u64.wrap (t6 - t7); let t9 := IntKind.u64.wrap (s18 * s10); let t10 := IntKind.u64.wrap (4294967296 * s16); let t11 := IntKind.u64.wrap (t10 + s14); let t12 := IntKind.u64.wrap (t2 + s18); let t13 := IntKind.u64.wrap (s18 * s2); let t14 := IntKind.u64.wrap (t6 - t13); bits_Div64.l1.c0 k1 k s2 s8 s9 s10 s14 s15 s16 s17 s18 t1 t2 t3 t4 t5 t6 t7 t8 t9 t10 t11 t12 t13 t14
def bits_Div64.c0 {γ : Type} (k0 : Int × Int × Int × Int × Int × Int × Int × Int × Int → Option γ) (k : Int × Int → Option γ) (a : Int) (b : Int) (c : Int) (t1 : Int) (t2 : Int) (t3 : Int) (t4 : Int) (t5 : Int) (t6 : Int) (t7 : Int) (t8 : Int) (t9 : Int) (t10 : Int) : Option γ := bif c == 0
  then none
  else bif decide (c ≤ a)
   then none
   else bif a == 0
    then bif !decide (c = 0)
     then bif !decide (c = 0)
      then k (t1, b.tmod c)
      else none
     else none
    else bif !decide (t3 < 0)
     then bif !decide (t3 < 0)
      then bif !decide (t4 < 0)
       then bif !decide (t3 < 0)
        then bif !decide (t5.fdiv (2 ^ min (Int.toNat 32) IntKind.u64.bits) = 0)
         then k0 (t5, t3, t5.fdiv (2 ^ min (Int.toNat 32) IntKind.u64.bits), andI IntKind.u64 t5 4294967295, orI IntKind.u64 t6 (b.fdiv (2 ^ min (IntKind.u64.wrap (64 - IntKind.u64.wrap (bits_LeadingZeros64 c))).toNat IntKind.u64.bits)), t7.fdiv (2 ^ min (Int.toNat 32) IntKind.u64.bits), andI IntKind.u64 t7 4294967295, t8, t10)
         else none
        else none
       else none
      else none
     else none
def bits_Div64.c {γ : Type} (k0 : Int × Int × Int × Int × Int × Int × Int × Int × Int → Option γ) (k : Int × Int → Option γ) (a : Int) (b : Int) (c : Int) : Option γ := let t1 := IntKind.u64.wrap (b.tdiv c); let t2 := bits_LeadingZeros64 c; let t3 := IntKind.u64.wrap t2; let t4 := IntKind.u64.wrap (64 - t3); let t5 := IntKind.u64.wrap (c * 2 ^ min (IntKind.u64.wrap (bits_LeadingZeros64 c)).toNat IntKind.u64.bits); let t6 := IntKind.u64.wrap (a * 2 ^ min (IntKind.u64.wrap (bits_LeadingZeros64 c)).toNat IntKind.u64.bits); let t7 := IntKind.u64.wrap (b * 2 ^ min (IntKind.u64.wrap (bits_LeadingZeros64 c)).toNat IntKind.u64.bits); let t8 := IntKind.u64.wrap ((orI IntKind.u64 t6 (b.fdiv (2 ^ min (IntKind.u64.wrap (64 - IntKind.u64.wrap (bits_LeadingZeros64 c))).toNat IntKind.u64.bits))).tdiv (t5.fdiv (2 ^ min (Int.toNat 32) IntKind.u64.bits))); let t9 := IntKind.u64.wrap (t8 * t5.fdiv (2 ^ min (Int.toNat 32) IntKind.u64.bits)); let t10 := IntKind.u64.wrap (orI IntKind.u64 t6 (b.fdiv (2 ^ min (IntKind.u64.wrap (64 - IntKind.u64.wrap (bits_LeadingZeros64 c))).toNat IntKind.u64.bits)) - t9); bits_Div64.c0 k0 k a b c t1 t2 t3 t4 t5 t6 t7 t8 t9 t10
def bits_Div64.L1 (N : Nat)  : Nat → Int × Int × Int × Int × Int × Int × Int × Int × Int → Option (Int × Int)
  | 0, _ => none
  | m + 1, q => bits_Div64.l1.c (bits_Div64.L1 N m) some (q).1 (q).2.1 (q).2.2.1 (q).2.2.2.1 (q).2.2.2.2.1 (q).2.2.2.2.2.1 (q).2.2.2.2.2.2.1 (q).2.2.2.2.2.2.2.1 (q).2.2.2.2.2.2.2.2
def bits_Div64.L0 (N : Nat) (l1 : Int × Int × Int × Int × Int × Int × Int × Int × Int → Option (Int × Int)) : Nat → Int × Int × Int × Int × Int × Int × Int × Int × Int → Option (Int × Int)
  | 0, _ => none
  | m + 1, q => bits_Div64.l0.c (bits_Div64.L0 N l1 m) l1 some (q).1 (q).2.1 (q).2.2.1 (q).2.2.2.1 (q).2.2.2.2.1 (q).2.2.2.2.2.1 (q).2.2.2.2.2.2.1 (q).2.2.2.2.2.2.2.1 (q).2.2.2.2.2.2.2.2
def bits_Div64.o (N : Nat) (a : Int) (b : Int) (c : Int) : Option (Int × Int) := bits_Div64.c (bits_Div64.L0 N (bits_Div64.L1 N  N) N) some a b c
noncomputable def bits_Div64.S1 (N : Nat) : LSum := sumN P G (tab L_bits_LeadingZeros64) (bits_Div64.H1 ) 60 bits_Div64.B1 N
noncomputable def bits_Div64.S0 (N : Nat) : LSum := sumN P G (tab L_bits_LeadingZeros64) (bits_Div64.H0 ) 60 bits_Div64.B0 N
theorem bits_Div64.l0.p0 {γ δ : Type} (f : γ → δ) (k0 : Int × Int × Int × Int × Int × Int × Int × Int × Int → Option γ) (k1 : Int × Int × Int × Int × Int × Int × Int × Int × Int → Option γ) (k : Int × Int → Option γ) (s2 : Int) (s8 : Int) (s9 : Int) (s10 : Int) (s11 : Int) (s13 : Int) (s14 : Int) (s15 : Int) (s16 : Int) (t1 : Int) (t2 : Int) (t3 : Int) (t4 : Int) (t5 : Int) (t6 : Int) (t7 : Int) (t8 : Int) (t9 : Int) (t10 : Int) (t11 : Int) (t12 : Int) (t13 : Int) (t14 : Int) (t15 : Int) (t16 : Int) (t17 : Int) : bits_Div64.l0.c0 (fun q => (k0 q).map f) (fun q => (k1 q).map f) (fun q => (k q).map f) s2 s8 s9 s10 s11 s13 s14 s15 s16 t1 t2 t3 t4 t5 t6 t7 t8 t9 t10 t11 t12 t13 t14 t15 t16 t17 = (bits_Div64.l0.c0 k0 k1 k s2 s8 s9 s10 s11 s13 s14 s15 s16 t1 t2 t3 t4 t5 t6 t7 t8 t9 t10 t11 t12 t13 t14 t15 t16 t17).map f := by
  unfold bits_Div64.l0.c0; (repeat' (first | (apply pm f) | (exact rfl)))
theorem bits_Div64.l0.p {γ δ : Type} (f : γ → δ) (k0 : Int × Int × Int × Int × Int × Int × Int × Int × Int → Option γ) (k1 : Int × Int × Int × Int × Int × Int × Int × Int × Int → Option γ) (k : Int × Int → Option γ) (s2 : Int) (s8 : Int) (s9 : Int) (s10 : Int) (s11 : Int) (s13 : Int) (s14 : Int) (s15 : Int) (s16 : Int) : bits_Div64.l0.c (fun q => (k0 q).map f) (fun q => (k1 q).map f) (fun q => (k q).map f) s2 s8 s9 s10 s11 s13 s14 s15 s16 = (bits_Div64.l0.c k0 k1 k s2 s8 s9 s10 s11 s13 s14 s15 s16).map f :=
  let t1 := IntKind.u64.wrap (s16 + s9); let t2 := IntKind.u64.wrap (s15 - 1); let t3 := IntKind.u64.wrap (s11 * 4294967296); let t4 := IntKind.u64.wrap (t3 + s13); let t5 := IntKind.u64.wrap (t2 * s2); let t6 := IntKind.u64.wrap (t4 - t5); let t7 := IntKind.u64.wrap (t6.tdiv s9); let t8 := IntKind.u64.wrap (t7 * s9); let t9 := IntKind.u64.wrap (t6 - t8); let t10 := IntKind.u64.wrap (s15 * s10); let t11 := IntKind.u64.wrap (4294967296 * s16); let t12 := IntKind.u64.wrap (t11 + s13); let t13 := IntKind.u64.wrap (s15 * s2); let t14 := IntKind.u64.wrap (t4 - t13); let t15 := IntKind.u64.wrap (t14.tdiv s9); let t16 := IntKind.u64.wrap (t15 * s9); let t17 := IntKind.u64.wrap (t14 - t16); bits_Div64.l0.p0 f k0 k1 k s2 s8 s9 s10 s11 s13 s14 s15 s16 t1 t2 t3 t4 t5 t6 t7 t8 t9 t10 t11 t12 t13 t14 t15 t16 t17
theorem bits_Div64.l1.p0 {γ δ : Type} (f : γ → δ) (k1 : Int × Int × Int × Int × Int × Int × Int × Int × Int → Option γ) (k : Int × Int → Option γ) (s2 : Int) (s8 : Int) (s9 : Int) (s10 : Int) (s14 : Int) (s15 : Int) (s16 : Int) (s17 : Int) (s18 : Int) (t1 : Int) (t2 : Int) (t3 : Int) (t4 : Int) (t5 : Int) (t6 : Int) (t7 : Int) (t8 : Int) (t9 : Int) (t10 : Int) (t11 : Int) (t12 : Int) (t13 : Int) (t14 : Int) : bits_Div64.l1.c0 (fun q => (k1 q).map f) (fun q => (k q).map f) s2 s8 s9 s10 s14 s15 s16 s17 s18 t1 t2 t3 t4 t5 t6 t7 t8 t9 t10 t11 t12 t13 t14 = (bits_Div64.l1.c0 k1 k s2 s8 s9 s10 s14 s15 s16 s17 s18 t1 t2 t3 t4 t5 t6 t7 t8 t9 t10 t11 t12 t13 t14).map f := by
  unfold bits_Div64.l1.c0; (repeat' (first | (apply pm f) | (exact rfl)))
theorem bits_Div64.l1.p {γ δ : Type} (f : γ → δ) (k1 : Int × Int × Int × Int × Int × Int × Int × Int × Int → Option γ) (k : Int × Int → Option γ) (s2 : Int) (s8 : Int) (s9 : Int) (s10 : Int) (s14 : Int) (s15 : Int) (s16 : Int) (s17 : Int) (s18 : Int) : bits_Div64.l1.c (fun q => (k1 q).map f) (fun q => (k q).map f) s2 s8 s9 s10 s14 s15 s16 s17 s18 = (bits_Div64.l1.c k1 k s2 s8 s9 s10 s14 s15 s16 s17 s18).map f :=
  let t1 := IntKind.u64.wrap (s16 + s9); let t2 := IntKind.u64.wrap (s15 * 4294967296); let t3 := IntKind.u64.wrap (s18 - 1); let t4 := IntKind.u64.wrap (t2 + t3); let t5 := IntKind.u64.wrap (s17 * 4294967296); let t6 := IntKind.u64.wrap (t5 + s14); let t7 := IntKind.u64.wrap (t3 * s2); let t8 := IntKind.u64.wrap (t6 - t7); let t9 := IntKind.u64.wrap (s18 * s10); let t10 := IntKind.u64.wrap (4294967296 * s16); let t11 := IntKind.u64.wrap (t10 + s14); let t12 := IntKind.u64.wrap (t2 + s18); let t13 := IntKind.u64.wrap (s18 * s2); let t14 := IntKind.u64.wrap (t6 - t13); bits_Div64.l1.p0 f k1 k s2 s8 s9 s10 s14 s15 s16 s17 s18 t1 t2 t3 t4 t5 t6 t7 t8 t9 t10 t11 t12 t13 t14
theorem bits_Div64.p0 {γ δ : Type} (f : γ → δ) (k0 : Int × Int × Int × Int × Int × Int × Int × Int × Int → Option γ) (k : Int × Int → Option γ) (a : Int) (b : Int) (c : Int) (t1 : Int) (t2 : Int) (t3 : Int) (t4 : Int) (t5 : Int) (t6 : Int) (t7 : Int) (t8 : Int) (t9 : Int) (t10 : Int) : bits_Div64.c0 (fun q => (k0 q).map f) (fun q => (k q).map f) a b c t1 t2 t3 t4 t5 t6 t7 t8 t9 t10 = (bits_Div64.c0 k0 k a b c t1 t2 t3 t4 t5 t6 t7 t8 t9 t10).map f := by
  unfold bits_Div64.c0; (repeat' (first | (apply pm f) | (exact rfl)))
theorem bits_Div64.p {γ δ : Type} (f : γ → δ) (k0 : Int × Int × Int × Int × Int × Int × Int × Int × Int → Option γ) (k : Int × Int → Option γ) (a : Int) (b : Int) (c : Int) : bits_Div64.c (fun q => (k0 q).map f) (fun q => (k q).map f) a b c = (bits_Div64.c k0 k a b c).map f :=
  let t1 := IntKind.u64.wrap (b.tdiv c); let t2 := bits_LeadingZeros64 c; let t3 := IntKind.u64.wrap t2; let t4 := IntKind.u64.wrap (64 - t3); let t5 := IntKind.u64.wrap (c * 2 ^ min (IntKind.u64.wrap (bits_LeadingZeros64 c)).toNat IntKind.u64.bits); let t6 := IntKind.u64.wrap (a * 2 ^ min (IntKind.u64.wrap (bits_LeadingZeros64 c)).toNat IntKind.u64.bits); let t7 := IntKind.u64.wrap (b * 2 ^ min (IntKind.u64.wrap (bits_LeadingZeros64 c)).toNat IntKind.u64.bits); let t8 := IntKind.u64.wrap ((orI IntKind.u64 t6 (b.fdiv (2 ^ min (IntKind.u64.wrap (64 - IntKind.u64.wrap (bits_LeadingZeros64 c))).toNat IntKind.u64.bits))).tdiv (t5.fdiv (2 ^ min (Int.toNat 32) IntKind.u64.bits))); let t9 := IntKind.u64.wrap (t8 * t5.fdiv (2 ^ min (Int.toNat 32) IntKind.u64.bits)); let t10 := IntKind.u64.wrap (orI IntKind.u64 t6 (b.fdiv (2 ^ min (IntKind.u64.wrap (64 - IntKind.u64.wrap (bits_LeadingZeros64 c))).toNat IntKind.u64.bits)) - t9); bits_Div64.p0 f k0 k a b c t1 t2 t3 t4 t5 t6 t7 t8 t9 t10
theorem bits_Div64.S1.ok (N : Nat) : LoopsOK P G (bits_Div64.H1 ).sums bits_Div64.B1 := by
  refine LoopsOK_code fun i hi F hF => ?_
  have hlen : (loopsOf bits_Div64.B1).length = 0 := by kernel_rfl
  rw [hlen] at hi
  omega
theorem bits_Div64.S1.snd (N : Nat) : SoundL P G bits_Div64.B1 (bits_Div64.S1 N) := sumN_sound C.mixed C.names bits_LeadingZeros64.t (bits_Div64.S1.ok N) N
theorem bits_Div64.S0.ok (N : Nat) : LoopsOK P G (bits_Div64.H0 ).sums bits_Div64.B0 := by
  refine LoopsOK_code fun i hi F hF => ?_
  have hlen : (loopsOf bits_Div64.B0).length = 0 := by kernel_rfl
  rw [hlen] at hi
  omega
theorem bits_Div64.S0.snd (N : Nat) : SoundL P G bits_Div64.B0 (bits_Div64.S0 N) := sumN_sound C.mixed C.names bits_LeadingZeros64.t (bits_Div64.S0.ok N) N
theorem bits_Div64.l0.r (F0 F1 G0 G1 : LSum) (s2 : Int) (s8 : Int) (s9 : Int) (s10 : Int) (s11 : Int) (s13 : Int) (s14 : Int) (s15 : Int) (s16 : Int) : ex P G (tab L_bits_LeadingZeros64) (bits_Div64.H0 ) 60 bits_Div64.B0 (bits_Div64.e0 (s2, s8, s9, s10, s11, s13, s14, s15, s16)) (roundK (bits_Div64.H0 ) bits_Div64.B0 G0 (bits_Div64.K0 F0 F1)) = bits_Div64.l0.c (fun q => G0.run (bits_Div64.e0 q) (bits_Div64.K0 F0 F1)) (fun q => F1.run (bits_Div64.e1 q) (bits_Div64.K1 F0 F1)) (fun q => some (bits_Div64.val q)) s2 s8 s9 s10 s11 s13 s14 s15 s16 := by kernel_rfl
theorem bits_Div64.l1.r (F0 F1 G0 G1 : LSum) (s2 : Int) (s8 : Int) (s9 : Int) (s10 : Int) (s14 : Int) (s15 : Int) (s16 : Int) (s17 : Int) (s18 : Int) : ex P G (tab L_bits_LeadingZeros64) (bits_Div64.H1 ) 60 bits_Div64.B1 (bits_Div64.e1 (s2, s8, s9, s10, s14, s15, s16, s17, s18)) (roundK (bits_Div64.H1 ) bits_Div64.B1 G1 (bits_Div64.K1 F0 F1)) = bits_Div64.l1.c (fun q => G1.run (bits_Div64.e1 q) (bits_Div64.K1 F0 F1)) (fun q => some (bits_Div64.val q)) s2 s8 s9 s10 s14 s15 s16 s17 s18 := by kernel_rfl
theorem bits_Div64.r (F0 F1 : LSum) (a : Int) (b : Int) (c : Int) : runF P G (tab L_bits_LeadingZeros64) (bits_Div64.H F0 F1) 60 Tryz.f257 [.int .u64 a, .int .u64 b, .int .u64 c] = bits_Div64.c (fun q => F0.run (bits_Div64.e0 q) (bits_Div64.K0 F0 F1)) (fun q => some (bits_Div64.val q)) a b c := by kernel_rfl
theorem bits_Div64.L1.ok (N : Nat) (F0 F1 : LSum)   : ∀ m q, (sumN P G (tab L_bits_LeadingZeros64) (bits_Div64.H1 ) 60 bits_Div64.B1 m).run (bits_Div64.e1 q) (bits_Div64.K1 F0 F1) = (bits_Div64.L1 N  m q).map bits_Div64.val
  | 0, q => rfl
  | m + 1, q => by
    have ih := bits_Div64.L1.ok N F0 F1   m
    refine (sumN_run (n := m) rfl).trans ((bits_Div64.l1.r F0 F1 noSum (sumN P G (tab L_bits_LeadingZeros64) (bits_Div64.H1 ) 60 bits_Div64.B1 m) (q).1 (q).2.1 (q).2.2.1 (q).2.2.2.1 (q).2.2.2.2.1 (q).2.2.2.2.2.1 (q).2.2.2.2.2.2.1 (q).2.2.2.2.2.2.2.1 (q).2.2.2.2.2.2.2.2).trans ?_)
    refine Eq.trans ?_ (bits_Div64.l1.p bits_Div64.val (bits_Div64.L1 N m) some (q).1 (q).2.1 (q).2.2.1 (q).2.2.2.1 (q).2.2.2.2.1 (q).2.2.2.2.2.1 (q).2.2.2.2.2.2.1 (q).2.2.2.2.2.2.2.1 (q).2.2.2.2.2.2.2.2)
    have e1 : (fun q => (sumN P G (tab L_bits_LeadingZeros64) (bits_Div64.H1 ) 60 bits_Div64.B1 m).run (bits_Div64.e1 q) (bits_Div64.K1 F0 F1)) = (fun q => ((bits_Div64.L1 N m) q).map bits_Div64.val) := funext ih
    rw [e1]; rfl
theorem bits_Div64.L0.ok (N : Nat) (F0 F1 : LSum) (l1 : Int × Int × Int × Int × Int × Int × Int × Int × Int → Option (Int × Int)) (h1 : ∀ q, F1.run (bits_Div64.e1 q) (bits_Div64.K1 F0 F1) = (l1 q).map bits_Div64.val) : ∀ m q, (sumN P G (tab L_bits_LeadingZeros64) (bits_Div64.H0 ) 60 bits_Div64.B0 m).run (bits_Div64.e0 q) (bits_Div64.K0 F0 F1) = (bits_Div64.L0 N l1 m q).map bits_Div64.val
  | 0, q => rfl
  | m + 1, q => by
    have ih := bits_Div64.L0.ok N F0 F1 l1 h1 m
    refine (sumN_run (n := m) rfl).trans ((bits_Div64.l0.r F0 F1 (sumN P G (tab L_bits_LeadingZeros64) (bits_Div64.H0 ) 60 bits_Div64.B0 m) noSum (q).1 (q).2.1 (q).2.2.1 (q).2.2.2.1 (q).2.2.2.2.1 (q).2.2.2.2.2.1 (q).2.2.2.2.2.2.1 (q).2.2.2.2.2.2.2.1 (q).2.2.2.2.2.2.2.2).trans ?_)
    refine Eq.trans ?_ (bits_Div64.l0.p bits_Div64.val (bits_Div64.L0 N l1 m) l1 some (q).1 (q).2.1 (q).2.2.1 (q).2.2.2.1 (q).2.2.2.2.1 (q).2.2.2.2.2.1 (q).2.2.2.2.2.2.1 (q).2.2.2.2.2.2.2.1 (q).2.2.2.2.2.2.2.2)
    have e0 : (fun q => (sumN P G (tab L_bits_LeadingZeros64) (bits_Div64.H0 ) 60 bits_Div64.B0 m).run (bits_Div64.e0 q) (bits_Div64.K0 F0 F1)) = (fun q => ((bits_Div64.L0 N l1 m) q).map bits_Div64.val) := funext ih
    have e1 : (fun q => F1.run (bits_Div64.e1 q) (bits_Div64.K1 F0 F1)) = (fun q => (l1 q).map bits_Div64.val) := funext h1
    rw [e0, e1]; rfl
theorem bits_Div64.q (N : Nat) (a : Int) (b : Int) (c : Int) : runF P G (tab L_bits_LeadingZeros64) (bits_Div64.H (bits_Div64.S0 N) (bits_Div64.S1 N)) 60 Tryz.f257 [.int .u64 a, .int .u64 b, .int .u64 c] = (bits_Div64.o N a b c).map bits_Div64.val := by
  have hk1 := bits_Div64.L1.ok N (bits_Div64.S0 N) (bits_Div64.S1 N)   N
  have hk0 := bits_Div64.L0.ok N (bits_Div64.S0 N) (bits_Div64.S1 N) (bits_Div64.L1 N  N) hk1 N
  refine (bits_Div64.r (bits_Div64.S0 N) (bits_Div64.S1 N) a b c).trans ?_
  refine Eq.trans ?_ (bits_Div64.p bits_Div64.val (bits_Div64.L0 N (bits_Div64.L1 N  N) N) some a b c)
  have e0 : (fun q => (bits_Div64.S0 N).run (bits_Div64.e0 q) (bits_Div64.K0 (bits_Div64.S0 N) (bits_Div64.S1 N))) = (fun q => ((bits_Div64.L0 N (bits_Div64.L1 N  N) N) q).map bits_Div64.val) := funext hk0
  rw [e0]; rfl
theorem bits_Div64.lok (N : Nat) : LoopsOK P G (bits_Div64.H (bits_Div64.S0 N) (bits_Div64.S1 N)).sums (fbody Tryz.f257) := by
  refine LoopsOK_code fun i hi F hF => ?_
  have hlen : (loopsOf (fbody Tryz.f257)).length = 2 := by kernel_rfl
  rw [hlen] at hi
  match i, hi with
  | 0, _ => exact soundAt (B' := bits_Div64.B0) (by kernel_rfl) (by kernel_rfl) (bits_Div64.S0.snd N) hF
  | 1, _ => exact soundAt (B' := bits_Div64.B1) (by kernel_rfl) (by kernel_rfl) (bits_Div64.S1.snd N) hF
  | _ + 2, h => omega
def bits_Div64 (a : Int) (b : Int) (c : Int) : Int × Int := hide ((bits_Div64.o (8) a b c).getD (0, 0))
def bits_Div64.g (a : Int) (b : Int) (c : Int) : Bool := hide (bits_Div64.o (8) a b c).isSome
theorem bits_Div64.s (a : Int) (b : Int) (c : Int) (h : bits_Div64.g a b c = true) : bits_Div64.o (8) a b c = some (bits_Div64 a b c) := by
  unfold bits_Div64.g at h; unfold bits_Div64; simp only [hide_eq] at h ⊢; revert h; cases bits_Div64.o (8) a b c <;> simp
def bits_Div64.F : FV := mkF (cP (cI .u64) (cP (cI .u64) (cP (cI .u64) cU))) (fun | (a, (b, (c, ()))) => bits_Div64.g a b c) (fun | (a, (b, (c, ()))) => bits_Div64.val (bits_Div64 a b c))
def L_bits_Div64 : TL := (257, bits_Div64.F) :: L_bits_LeadingZeros64
theorem bits_Div64.t : TabOK P G (tab L_bits_Div64) :=
  TabOK_mkH C bits_LeadingZeros64.t Tryz.func257 (by kernel_rfl) (fun | (_, (_, (_, ()))) => bits_Div64.H (bits_Div64.S0 (8)) (bits_Div64.S1 (8))) (by rintro ⟨a, ⟨b, ⟨c, ⟨⟩⟩⟩⟩; exact bits_Div64.lok _) 60 (by
    rintro ⟨a, ⟨b, ⟨c, ⟨⟩⟩⟩⟩ h
    exact (bits_Div64.q (8) a b c).trans (congrArg (Option.map bits_Div64.val) (bits_Div64.s a b c h)))
def bits_Rem64.c0 {γ : Type} (n : γ) (k : Int → γ) (a : Int) (b : Int) (c : Int) (t1 : Bool) (t2 : Int × Int) : γ := bif !decide (c = 0)
  then bif t1
   then k (t2.snd)
   else n
  else n
def bits_Rem64.c {γ : Type} (n : γ) (k : Int → γ) (a : Int) (b : Int) (c : Int) : γ := let t1 := bits_Div64.g (a.tmod c) b c; let t2 := bits_Div64 (a.tmod c) b c; bits_Rem64.c0 n k a b c t1 t2
def bits_Rem64.ok (a : Int) (b : Int) (c : Int) : Bool := bits_Rem64.c false (fun _ => true) a b c
def bits_Rem64 (a : Int) (b : Int) (c : Int) : Int := bits_Rem64.c (0) id a b c
def bits_Rem64.F : FV := mkF (cP (cI .u64) (cP (cI .u64) (cP (cI .u64) cU))) (fun | (a, (b, (c, ()))) => bits_Rem64.ok a b c) (fun | (a, (b, (c, ()))) => .int .u64 (bits_Rem64 a b c))
def L_bits_Rem64 : TL := (228, bits_Rem64.F) :: L_bits_Div64
theorem bits_Rem64.p0 {γ : Type} (k : Int → γ) (a : Int) (b : Int) (c : Int) (t1 : Bool) (t2 : Int × Int) : bits_Rem64.c0 false (fun _ => true) a b c t1 t2 = true → bits_Rem64.c0 none (fun q => some (k q)) a b c t1 t2 = some (k (bits_Rem64.c0 (0) id a b c t1 t2)) := by
  unfold bits_Rem64.c0; (repeat' (first | (apply pn k) | (exact pn_none _ _) | (exact pn_leaf k _)))
theorem bits_Rem64.p {γ : Type} (k : Int → γ) (a : Int) (b : Int) (c : Int) (h : bits_Rem64.ok a b c = true) : bits_Rem64.c none (fun q => some (k q)) a b c = some (k (bits_Rem64 a b c)) :=
  let t1 := bits_Div64.g (a.tmod c) b c; let t2 := bits_Div64 (a.tmod c) b c; bits_Rem64.p0 k a b c t1 t2 h
theorem bits_Rem64.r (a : Int) (b : Int) (c : Int) : runF P G (tab L_bits_Div64) { merge := true } 60 Tryz.f228 [.int .u64 a, .int .u64 b, .int .u64 c] = bits_Rem64.c none (fun q => some (.int .u64 (q) : Value)) a b c := by kernel_rfl
theorem bits_Rem64.t : TabOK P G (tab L_bits_Rem64) :=
  TabOK_mk C bits_Div64.t Tryz.func228 (by kernel_rfl) true 60 (by
    rintro ⟨a, ⟨b, ⟨c, ⟨⟩⟩⟩⟩ h
    exact (bits_Rem64.r a b c).trans (bits_Rem64.p (fun q => (.int .u64 (q) : Value)) a b c h))
def bits_TrailingZeros64.c0 {γ : Type} (n : γ) (k : Int → γ) (a : Int) (t1 : Int) (t2 : Int) (t3 : Int) : γ := bif a == 0
  then k (64)
  else bif decide (0 ≤ t2.fdiv (2 ^ min (Int.toNat 58) IntKind.u64.bits)) && decide (t2.fdiv (2 ^ min (Int.toNat 58) IntKind.u64.bits) < ↑64)
   then bif (0 + ((IntKind.u64.wrap (andI IntKind.u64 a (IntKind.u64.wrap (0 - a)) * 285870213051353865)).fdiv (2 ^ min (Int.toNat 58) IntKind.u64.bits)).toNat * 1).blt deBruijn.length
    then k (t3)
    else n
   else n
def bits_TrailingZeros64.c {γ : Type} (n : γ) (k : Int → γ) (a : Int) : γ := let t1 := IntKind.u64.wrap (0 - a); let t2 := IntKind.u64.wrap (andI IntKind.u64 a t1 * 285870213051353865); let t3 := IntKind.i64.wrap (deBruijn.getD (0 + ((IntKind.u64.wrap (andI IntKind.u64 a (IntKind.u64.wrap (0 - a)) * 285870213051353865)).fdiv (2 ^ min (Int.toNat 58) IntKind.u64.bits)).toNat * 1) 0); bits_TrailingZeros64.c0 n k a t1 t2 t3
def bits_TrailingZeros64.ok (a : Int) : Bool := bits_TrailingZeros64.c false (fun _ => true) a
def bits_TrailingZeros64 (a : Int) : Int := bits_TrailingZeros64.c (0) id a
def bits_TrailingZeros64.F : FV := mkF (cP (cI .u64) cU) (fun _ => true) (fun | (a, ()) => .int .i64 (bits_TrailingZeros64 a))
def L_bits_TrailingZeros64 : TL := (255, bits_TrailingZeros64.F) :: L_bits_Rem64
theorem bits_TrailingZeros64.okt (a : Int) : bits_TrailingZeros64.ok a = true := by
  unfold bits_TrailingZeros64.ok bits_TrailingZeros64.c bits_TrailingZeros64.c0; simp only [tzi, tzi', tzj, cond_true, Bool.cond_self]
theorem bits_TrailingZeros64.p0 {γ : Type} (k : Int → γ) (a : Int) (t1 : Int) (t2 : Int) (t3 : Int) : bits_TrailingZeros64.c0 false (fun _ => true) a t1 t2 t3 = true → bits_TrailingZeros64.c0 none (fun q => some (k q)) a t1 t2 t3 = some (k (bits_TrailingZeros64.c0 (0) id a t1 t2 t3)) := by
  unfold bits_TrailingZeros64.c0; (repeat' (first | (apply pn k) | (exact pn_none _ _) | (exact pn_leaf k _)))
theorem bits_TrailingZeros64.p {γ : Type} (k : Int → γ) (a : Int) (h : bits_TrailingZeros64.ok a = true) : bits_TrailingZeros64.c none (fun q => some (k q)) a = some (k (bits_TrailingZeros64 a)) :=
  let t1 := IntKind.u64.wrap (0 - a); let t2 := IntKind.u64.wrap (andI IntKind.u64 a t1 * 285870213051353865); let t3 := IntKind.i64.wrap (deBruijn.getD (0 + ((IntKind.u64.wrap (andI IntKind.u64 a (IntKind.u64.wrap (0 - a)) * 285870213051353865)).fdiv (2 ^ min (Int.toNat 58) IntKind.u64.bits)).toNat * 1) 0); bits_TrailingZeros64.p0 k a t1 t2 t3 h
theorem bits_TrailingZeros64.r (a : Int) : runF P G (tab L_bits_Rem64) { merge := true } 60 Tryz.f255 [.int .u64 a] = bits_TrailingZeros64.c none (fun q => some (.int .i64 (q) : Value)) a := by kernel_rfl
theorem bits_TrailingZeros64.t : TabOK P G (tab L_bits_TrailingZeros64) :=
  TabOK_mk C bits_Rem64.t Tryz.func255 (by kernel_rfl) true 60 (by
    rintro ⟨a, ⟨⟩⟩ h
    exact (bits_TrailingZeros64.r a).trans (bits_TrailingZeros64.p (fun q => (.int .i64 (q) : Value)) a (bits_TrailingZeros64.okt a)))
end
end Go.Proofs.YtonpbbhlmapbdaaGreatDoor.V
