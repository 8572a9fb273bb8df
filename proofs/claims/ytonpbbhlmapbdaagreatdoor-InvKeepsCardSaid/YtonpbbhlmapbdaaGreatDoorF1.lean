/- What the functions of this seat compute, told by evaluation of their code. Conditions: none. -/
import Derived.Test.YtonpbbhlmapbdaaGreatDoorE7
set_option linter.unusedVariables false
set_option linter.unusedSimpArgs false
namespace Go.Proofs.YtonpbbhlmapbdaaGreatDoor.V
open Go Go.Wk
noncomputable section
def w1_Add.val (q : Int) : Value := .int .i64 (q)
def w1_Add.h : List (Nat × List Nat × Nat) := [(2, [5, 6], 0)]
def w1_Add.e0 (q : Int × Int) : St := { tmps := [.unk, .unk, .unk, .unk, .unk, .val (.int .u64 (q).1), .val (.int .u64 (q).2), .unk, .unk, .unk, .unk, .unk, .unk, .unk, .unk, .unk, .unk, .unk, .unk, .unk, .unk, .unk, .unk, .unk], blks := [], saved := [] }
noncomputable def w1_Add.B0 : Code := loopAt [1, 1, 0, 0] (fbody Tryz.f109)
noncomputable def w1_Add.H (F0 : LSum) : Heads := { heads := w1_Add.h, merge := true, sums := [(2, F0)] }
noncomputable def w1_Add.H0  : Heads := { heads := w1_Add.h, merge := true, sums := [] }
noncomputable def w1_Add.K0 (F0 : LSum) : Xt → St → Option Value := kAt P G (tab L_nref_Leq) (w1_Add.H F0) [1, 1, 0, 0] 60 (fbody Tryz.f109) (retK P G Tryz.f109)
def w1_Add.l0.c0 {γ : Type} (k0 : Int × Int → Option γ) (k : Int → Option γ) (s5 s6 t1 t2 : Int) : Option γ := bif s6 != 0
then k0 (xorI IntKind.u64 s5 s6, t1)
else k (t2)
def w1_Add.l0.c {γ : Type} (k0 : Int × Int → Option γ) (k : Int → Option γ) (s5 s6 : Int) : Option γ := let t1 := IntKind.u64.wrap (andI IntKind.u64 s5 s6 * 2 ^ min (Int.toNat 1) IntKind.u64.bits); let t2 := IntKind.i64.wrap s5; w1_Add.l0.c0 k0 k s5 s6 t1 t2
def w1_Add.c0 {γ : Type} (k0 : Int × Int → Option γ) (k : Int → Option γ) (a b t1 t2 : Int) : Option γ := k0 (t1, t2)
def w1_Add.c {γ : Type} (k0 : Int × Int → Option γ) (k : Int → Option γ) (a b : Int) : Option γ := let t1 := IntKind.u64.wrap a; let t2 := IntKind.u64.wrap b; w1_Add.c0 k0 k a b t1 t2
def w1_Add.L0 (N : Nat)  : Nat → Int × Int → Option (Int)
  | 0, _ => none
  | m + 1, q => w1_Add.l0.c (w1_Add.L0 N m) some (q).1 (q).2
def w1_Add.o (N : Nat) (a b : Int) : Option (Int) := w1_Add.c (w1_Add.L0 N  N) some a b
noncomputable def w1_Add.S0 (N : Nat) : LSum := sumN P G (tab L_nref_Leq) (w1_Add.H0 ) 60 w1_Add.B0 N
theorem w1_Add.l0.p0 {γ δ : Type} (f : γ → δ) (k0 : Int × Int → Option γ) (k : Int → Option γ) (s5 s6 t1 t2) : w1_Add.l0.c0 (fun q => (k0 q).map f) (fun q => (k q).map f) s5 s6 t1 t2 = (w1_Add.l0.c0 k0 k s5 s6 t1 t2).map f := by
  unfold w1_Add.l0.c0; (repeat' (first | (apply pm f) | (exact rfl)))
theorem w1_Add.l0.p {γ δ : Type} (f : γ → δ) (k0 : Int × Int → Option γ) (k : Int → Option γ) (s5 s6 : Int) : w1_Add.l0.c (fun q => (k0 q).map f) (fun q => (k q).map f) s5 s6 = (w1_Add.l0.c k0 k s5 s6).map f := by
  unfold w1_Add.l0.c; apply w1_Add.l0.p0
theorem w1_Add.p0 {γ δ : Type} (f : γ → δ) (k0 : Int × Int → Option γ) (k : Int → Option γ) (a b t1 t2) : w1_Add.c0 (fun q => (k0 q).map f) (fun q => (k q).map f) a b t1 t2 = (w1_Add.c0 k0 k a b t1 t2).map f := by
  unfold w1_Add.c0; (repeat' (first | (apply pm f) | (exact rfl)))
theorem w1_Add.p {γ δ : Type} (f : γ → δ) (k0 : Int × Int → Option γ) (k : Int → Option γ) (a b : Int) : w1_Add.c (fun q => (k0 q).map f) (fun q => (k q).map f) a b = (w1_Add.c k0 k a b).map f := by
  unfold w1_Add.c; apply w1_Add.p0
theorem w1_Add.S0.ok (N : Nat) : LoopsOK P G (w1_Add.H0 ).sums w1_Add.B0 := by
  refine LoopsOK_code fun i hi F hF => ?_
  have hlen : (loopsOf w1_Add.B0).length = 0 := by kernel_rfl
  rw [hlen] at hi
  omega
theorem w1_Add.S0.snd (N : Nat) : SoundL P G w1_Add.B0 (w1_Add.S0 N) := sumN_sound C.mixed C.names nref_Leq.t (w1_Add.S0.ok N) N
theorem w1_Add.l0.r (F0 G0 : LSum) (s5 s6 : Int) : ex P G (tab L_nref_Leq) (w1_Add.H0 ) 60 w1_Add.B0 (w1_Add.e0 (s5, s6)) (roundK (w1_Add.H0 ) w1_Add.B0 G0 (w1_Add.K0 F0)) = w1_Add.l0.c (fun q => G0.run (w1_Add.e0 q) (w1_Add.K0 F0)) (fun q => some (w1_Add.val q)) s5 s6 := by kernel_rfl
theorem w1_Add.r (F0 : LSum) (a b : Int) : runF P G (tab L_nref_Leq) (w1_Add.H F0) 60 Tryz.f109 [.int .i64 a, .int .i64 b] = w1_Add.c (fun q => F0.run (w1_Add.e0 q) (w1_Add.K0 F0)) (fun q => some (w1_Add.val q)) a b := by kernel_rfl
theorem w1_Add.L0.ok (N : Nat) (F0 : LSum)   : ∀ m q, (sumN P G (tab L_nref_Leq) (w1_Add.H0 ) 60 w1_Add.B0 m).run (w1_Add.e0 q) (w1_Add.K0 F0) = (w1_Add.L0 N  m q).map w1_Add.val
  | 0, q => rfl
  | m + 1, q => by
    have ih := w1_Add.L0.ok N F0   m
    refine (sumN_run (n := m) rfl).trans ((w1_Add.l0.r F0 (sumN P G (tab L_nref_Leq) (w1_Add.H0 ) 60 w1_Add.B0 m) (q).1 (q).2).trans ?_)
    refine Eq.trans ?_ (w1_Add.l0.p w1_Add.val (w1_Add.L0 N m) some (q).1 (q).2)
    have e0 : (fun q => (sumN P G (tab L_nref_Leq) (w1_Add.H0 ) 60 w1_Add.B0 m).run (w1_Add.e0 q) (w1_Add.K0 F0)) = (fun q => ((w1_Add.L0 N m) q).map w1_Add.val) := funext ih
    rw [e0]; rfl
theorem w1_Add.q (N : Nat) (a b : Int) : runF P G (tab L_nref_Leq) (w1_Add.H (w1_Add.S0 N)) 60 Tryz.f109 [.int .i64 a, .int .i64 b] = (w1_Add.o N a b).map w1_Add.val := by
  have hk0 := w1_Add.L0.ok N (w1_Add.S0 N)   N
  refine (w1_Add.r (w1_Add.S0 N) a b).trans ?_
  refine Eq.trans ?_ (w1_Add.p w1_Add.val (w1_Add.L0 N  N) some a b)
  have e0 : (fun q => (w1_Add.S0 N).run (w1_Add.e0 q) (w1_Add.K0 (w1_Add.S0 N))) = (fun q => ((w1_Add.L0 N  N) q).map w1_Add.val) := funext hk0
  rw [e0]; rfl
theorem w1_Add.lok (N : Nat) : LoopsOK P G (w1_Add.H (w1_Add.S0 N)).sums (fbody Tryz.f109) := by
  refine LoopsOK_code fun i hi F hF => ?_
  have hlen : (loopsOf (fbody Tryz.f109)).length = 1 := by kernel_rfl
  rw [hlen] at hi
  match i, hi with
  | 0, _ => exact soundAt (B' := w1_Add.B0) (by kernel_rfl) (by kernel_rfl) (w1_Add.S0.snd N) hF
  | _ + 1, h => omega
def w1_Add (a b : Int) : Int := hide ((w1_Add.o (67) a b).getD (0))
def w1_Add.g (a b : Int) : Bool := hide (w1_Add.o (67) a b).isSome
theorem w1_Add.s (a b : Int) (h : w1_Add.g a b = true) : w1_Add.o (67) a b = some (w1_Add a b) := by
  unfold w1_Add.g at h; unfold w1_Add; simp only [hide_eq] at h ⊢; revert h; cases w1_Add.o (67) a b <;> simp
def w1_Add.F : FV := mkF (cP (cI .i64) (cP (cI .i64) cU)) (fun | (a, b, ()) => w1_Add.g a b) (fun | (a, b, ()) => w1_Add.val (w1_Add a b))
def L_w1_Add : TL := (109, w1_Add.F) :: L_nref_Leq
theorem w1_Add.t : TabOK P G (tab L_w1_Add) :=
  TabOK_mkH C nref_Leq.t Tryz.func109 (by kernel_rfl) (fun | (_, (_, ())) => w1_Add.H (w1_Add.S0 (67))) (by rintro ⟨a, b, ⟨⟩⟩; exact w1_Add.lok _) 60 (by
    rintro ⟨a, b, ⟨⟩⟩ h
    exact (w1_Add.q (67) a b).trans (congrArg (Option.map w1_Add.val) (w1_Add.s a b h)))
def w1_Neg.c0 {γ : Type} (n : γ) (k : Int → γ) (a t1 t2 t3 : Int) (t4 : Bool) (t5 : Int) : γ := bif t4
then k (t5)
else n
def w1_Neg.c {γ : Type} (n : γ) (k : Int → γ) (a : Int) : γ := let t1 := if IntKind.u64.signed = true then -1 else IntKind.u64.max; let t2 := IntKind.u64.wrap a; let t3 := IntKind.i64.wrap (xorI IntKind.u64 t1 t2); let t4 := w1_Add.g t3 1; let t5 := w1_Add t3 1; w1_Neg.c0 n k a t1 t2 t3 t4 t5
def w1_Neg.ok (a : Int) : Bool := w1_Neg.c false (fun _ => true) a
def w1_Neg (a : Int) : Int := w1_Neg.c (0) id a
def w1_Neg.F : FV := mkF (cP (cI .i64) cU) (fun | (a, ()) => w1_Neg.ok a) (fun | (a, ()) => .int .i64 (w1_Neg a))
def L_w1_Neg : TL := (108, w1_Neg.F) :: L_w1_Add
theorem w1_Neg.p0 {γ : Type} (k : Int → γ) (a t1 t2 t3 t4 t5) : w1_Neg.c0 false (fun _ => true) a t1 t2 t3 t4 t5 = true → w1_Neg.c0 none (fun q => some (k q)) a t1 t2 t3 t4 t5 = some (k (w1_Neg.c0 (0) id a t1 t2 t3 t4 t5)) := by
  unfold w1_Neg.c0; (repeat' (first | (apply pn k) | (exact pn_none _ _) | (exact pn_leaf k _)))
theorem w1_Neg.p {γ : Type} (k : Int → γ) (a : Int) (h : w1_Neg.ok a = true) : w1_Neg.c none (fun q => some (k q)) a = some (k (w1_Neg a)) := by
  revert h; unfold w1_Neg.ok w1_Neg w1_Neg.c; apply w1_Neg.p0
theorem w1_Neg.r (a : Int) : runF P G (tab L_w1_Add) { merge := true, glue := true } 60 Tryz.f108 [.int .i64 a] = w1_Neg.c none (fun q => some (.int .i64 (q) : Value)) a := by kernel_rfl
theorem w1_Neg.t : TabOK P G (tab L_w1_Neg) :=
  TabOK_mkL C w1_Add.t Tryz.func108 (by kernel_rfl) { merge := true, glue := true } (fun c _ => LoopsOK_nil c) 60 (by
    rintro ⟨a, ⟨⟩⟩ h
    exact (w1_Neg.r a).trans (w1_Neg.p (fun q => (.int .i64 (q) : Value)) a h))
def w1_Sub.c0 {γ : Type} (n : γ) (k : Int → γ) (a b : Int) (t1 : Bool) (t2 : Int) (t3 : Bool) (t4 : Int) : γ := bif t1
then bif t3
then k (t4)
else n
else n
def w1_Sub.c {γ : Type} (n : γ) (k : Int → γ) (a b : Int) : γ := let t1 := w1_Neg.ok b; let t2 := w1_Neg b; let t3 := w1_Add.g a t2; let t4 := w1_Add a t2; w1_Sub.c0 n k a b t1 t2 t3 t4
def w1_Sub.ok (a b : Int) : Bool := w1_Sub.c false (fun _ => true) a b
def w1_Sub (a b : Int) : Int := w1_Sub.c (0) id a b
def w1_Sub.F : FV := mkF (cP (cI .i64) (cP (cI .i64) cU)) (fun | (a, b, ()) => w1_Sub.ok a b) (fun | (a, b, ()) => .int .i64 (w1_Sub a b))
def L_w1_Sub : TL := (110, w1_Sub.F) :: L_w1_Neg
theorem w1_Sub.p0 {γ : Type} (k : Int → γ) (a b t1 t2 t3 t4) : w1_Sub.c0 false (fun _ => true) a b t1 t2 t3 t4 = true → w1_Sub.c0 none (fun q => some (k q)) a b t1 t2 t3 t4 = some (k (w1_Sub.c0 (0) id a b t1 t2 t3 t4)) := by
  unfold w1_Sub.c0; (repeat' (first | (apply pn k) | (exact pn_none _ _) | (exact pn_leaf k _)))
theorem w1_Sub.p {γ : Type} (k : Int → γ) (a b : Int) (h : w1_Sub.ok a b = true) : w1_Sub.c none (fun q => some (k q)) a b = some (k (w1_Sub a b)) := by
  revert h; unfold w1_Sub.ok w1_Sub w1_Sub.c; apply w1_Sub.p0
theorem w1_Sub.r (a b : Int) : runF P G (tab L_w1_Neg) { merge := true, glue := true } 60 Tryz.f110 [.int .i64 a, .int .i64 b] = w1_Sub.c none (fun q => some (.int .i64 (q) : Value)) a b := by kernel_rfl
theorem w1_Sub.t : TabOK P G (tab L_w1_Sub) :=
  TabOK_mkL C w1_Neg.t Tryz.func110 (by kernel_rfl) { merge := true, glue := true } (fun c _ => LoopsOK_nil c) 60 (by
    rintro ⟨a, b, ⟨⟩⟩ h
    exact (w1_Sub.r a b).trans (w1_Sub.p (fun q => (.int .i64 (q) : Value)) a b h))
def w1_Mul.val (q : Int) : Value := .int .i64 (q)
def w1_Mul.h : List (Nat × List Nat × Nat) := [(4, [1, 5, 6, 7], 0)]
def w1_Mul.e0 (q : Int × Int × Int × Int) : St := { tmps := [.unk, .val (.int .i64 (q).1), .unk, .unk, .unk, .val (.int .i64 (q).2.1), .val (.int .u64 (q).2.2.1), .val (.int .i64 (q).2.2.2), .unk, .unk, .unk, .unk, .unk, .unk, .unk, .unk, .unk, .unk, .unk, .unk, .unk, .unk, .unk, .unk, .unk, .unk, .unk], blks := [], saved := [] }
noncomputable def w1_Mul.B0 : Code := loopAt [1, 1, 1, 0, 1, 0] (fbody Tryz.f111)
noncomputable def w1_Mul.H (F0 : LSum) : Heads := { heads := w1_Mul.h, merge := true, sums := [(4, F0)] }
noncomputable def w1_Mul.H0  : Heads := { heads := w1_Mul.h, merge := true, sums := [] }
noncomputable def w1_Mul.K0 (F0 : LSum) : Xt → St → Option Value := kAt P G (tab L_w1_Sub) (w1_Mul.H F0) [1, 1, 1, 0, 1, 0] 60 (fbody Tryz.f111) (retK P G Tryz.f111)
def w1_Mul.l0.c0 {γ : Type} (k0 : Int × Int × Int × Int → Option γ) (k : Int → Option γ) (s1 s5 s6 s7 t1 t2 : Int) (t3 : Bool) (t4 : Int) (t5 : Bool) (t6 t7 t8 : Int) : Option γ := bif decide (s7 < 64)
then bif !decide (s7 < 0)
then bif !decide (s7 < 0) && (t3 && true) && true || t5
then k0 (s1, t7, s6, t8)
else none
else none
else k (s5)
def w1_Mul.l0.c {γ : Type} (k0 : Int × Int × Int × Int → Option γ) (k : Int → Option γ) (s1 s5 s6 s7 : Int) : Option γ := let t1 := IntKind.u64.wrap (s6 * 2 ^ min s7.toNat IntKind.u64.bits); let t2 := IntKind.i64.wrap t1; let t3 := w1_Add.g s5 t2; let t4 := IntKind.u64.wrap s1; let t5 := bif (t4.fdiv (2 ^ min s7.toNat IntKind.u64.bits)).tmod 2 == 1 then !decide (s7 < 0) && (t3 && true) else true; let t6 := w1_Add s5 t2; let t7 := bif (t4.fdiv (2 ^ min s7.toNat IntKind.u64.bits)).tmod 2 == 1 then t6 else s5; let t8 := IntKind.i64.wrap (s7 + 1); w1_Mul.l0.c0 k0 k s1 s5 s6 s7 t1 t2 t3 t4 t5 t6 t7 t8
def w1_Mul.c0 {γ : Type} (k0 : Int × Int × Int × Int → Option γ) (k : Int → Option γ) (a b t1 : Int) : Option γ := k0 (b, 0, t1, 0)
def w1_Mul.c {γ : Type} (k0 : Int × Int × Int × Int → Option γ) (k : Int → Option γ) (a b : Int) : Option γ := let t1 := IntKind.u64.wrap a; w1_Mul.c0 k0 k a b t1
def w1_Mul.L0 (N : Nat)  : Nat → Int × Int × Int × Int → Option (Int)
  | 0, _ => none
  | m + 1, q => w1_Mul.l0.c (w1_Mul.L0 N m) some (q).1 (q).2.1 (q).2.2.1 (q).2.2.2
def w1_Mul.o (N : Nat) (a b : Int) : Option (Int) := w1_Mul.c (w1_Mul.L0 N  N) some a b
noncomputable def w1_Mul.S0 (N : Nat) : LSum := sumN P G (tab L_w1_Sub) (w1_Mul.H0 ) 60 w1_Mul.B0 N
theorem w1_Mul.l0.p0 {γ δ : Type} (f : γ → δ) (k0 : Int × Int × Int × Int → Option γ) (k : Int → Option γ) (s1 s5 s6 s7 t1 t2 t3 t4 t5 t6 t7 t8) : w1_Mul.l0.c0 (fun q => (k0 q).map f) (fun q => (k q).map f) s1 s5 s6 s7 t1 t2 t3 t4 t5 t6 t7 t8 = (w1_Mul.l0.c0 k0 k s1 s5 s6 s7 t1 t2 t3 t4 t5 t6 t7 t8).map f := by
  unfold w1_Mul.l0.c0; (repeat' (first | (apply pm f) | (exact rfl)))
theorem w1_Mul.l0.p {γ δ : Type} (f : γ → δ) (k0 : Int × Int × Int × Int → Option γ) (k : Int → Option γ) (s1 s5 s6 s7 : Int) : w1_Mul.l0.c (fun q => (k0 q).map f) (fun q => (k q).map f) s1 s5 s6 s7 = (w1_Mul.l0.c k0 k s1 s5 s6 s7).map f := by
  unfold w1_Mul.l0.c; apply w1_Mul.l0.p0
theorem w1_Mul.p0 {γ δ : Type} (f : γ → δ) (k0 : Int × Int × Int × Int → Option γ) (k : Int → Option γ) (a b t1) : w1_Mul.c0 (fun q => (k0 q).map f) (fun q => (k q).map f) a b t1 = (w1_Mul.c0 k0 k a b t1).map f := by
  unfold w1_Mul.c0; (repeat' (first | (apply pm f) | (exact rfl)))
theorem w1_Mul.p {γ δ : Type} (f : γ → δ) (k0 : Int × Int × Int × Int → Option γ) (k : Int → Option γ) (a b : Int) : w1_Mul.c (fun q => (k0 q).map f) (fun q => (k q).map f) a b = (w1_Mul.c k0 k a b).map f := by
  unfold w1_Mul.c; apply w1_Mul.p0
theorem w1_Mul.S0.ok (N : Nat) : LoopsOK P G (w1_Mul.H0 ).sums w1_Mul.B0 := by
  refine LoopsOK_code fun i hi F hF => ?_
  have hlen : (loopsOf w1_Mul.B0).length = 0 := by kernel_rfl
  rw [hlen] at hi
  omega
theorem w1_Mul.S0.snd (N : Nat) : SoundL P G w1_Mul.B0 (w1_Mul.S0 N) := sumN_sound C.mixed C.names w1_Sub.t (w1_Mul.S0.ok N) N
theorem w1_Mul.l0.r (F0 G0 : LSum) (s1 s5 s6 s7 : Int) : ex P G (tab L_w1_Sub) (w1_Mul.H0 ) 60 w1_Mul.B0 (w1_Mul.e0 (s1, s5, s6, s7)) (roundK (w1_Mul.H0 ) w1_Mul.B0 G0 (w1_Mul.K0 F0)) = w1_Mul.l0.c (fun q => G0.run (w1_Mul.e0 q) (w1_Mul.K0 F0)) (fun q => some (w1_Mul.val q)) s1 s5 s6 s7 := by kernel_rfl
theorem w1_Mul.r (F0 : LSum) (a b : Int) : runF P G (tab L_w1_Sub) (w1_Mul.H F0) 60 Tryz.f111 [.int .i64 a, .int .i64 b] = w1_Mul.c (fun q => F0.run (w1_Mul.e0 q) (w1_Mul.K0 F0)) (fun q => some (w1_Mul.val q)) a b := by kernel_rfl
theorem w1_Mul.L0.ok (N : Nat) (F0 : LSum)   : ∀ m q, (sumN P G (tab L_w1_Sub) (w1_Mul.H0 ) 60 w1_Mul.B0 m).run (w1_Mul.e0 q) (w1_Mul.K0 F0) = (w1_Mul.L0 N  m q).map w1_Mul.val
  | 0, q => rfl
  | m + 1, q => by
    have ih := w1_Mul.L0.ok N F0   m
    refine (sumN_run (n := m) rfl).trans ((w1_Mul.l0.r F0 (sumN P G (tab L_w1_Sub) (w1_Mul.H0 ) 60 w1_Mul.B0 m) (q).1 (q).2.1 (q).2.2.1 (q).2.2.2).trans ?_)
    refine Eq.trans ?_ (w1_Mul.l0.p w1_Mul.val (w1_Mul.L0 N m) some (q).1 (q).2.1 (q).2.2.1 (q).2.2.2)
    have e0 : (fun q => (sumN P G (tab L_w1_Sub) (w1_Mul.H0 ) 60 w1_Mul.B0 m).run (w1_Mul.e0 q) (w1_Mul.K0 F0)) = (fun q => ((w1_Mul.L0 N m) q).map w1_Mul.val) := funext ih
    rw [e0]; rfl
theorem w1_Mul.q (N : Nat) (a b : Int) : runF P G (tab L_w1_Sub) (w1_Mul.H (w1_Mul.S0 N)) 60 Tryz.f111 [.int .i64 a, .int .i64 b] = (w1_Mul.o N a b).map w1_Mul.val := by
  have hk0 := w1_Mul.L0.ok N (w1_Mul.S0 N)   N
  refine (w1_Mul.r (w1_Mul.S0 N) a b).trans ?_
  refine Eq.trans ?_ (w1_Mul.p w1_Mul.val (w1_Mul.L0 N  N) some a b)
  have e0 : (fun q => (w1_Mul.S0 N).run (w1_Mul.e0 q) (w1_Mul.K0 (w1_Mul.S0 N))) = (fun q => ((w1_Mul.L0 N  N) q).map w1_Mul.val) := funext hk0
  rw [e0]; rfl
theorem w1_Mul.lok (N : Nat) : LoopsOK P G (w1_Mul.H (w1_Mul.S0 N)).sums (fbody Tryz.f111) := by
  refine LoopsOK_code fun i hi F hF => ?_
  have hlen : (loopsOf (fbody Tryz.f111)).length = 1 := by kernel_rfl
  rw [hlen] at hi
  match i, hi with
  | 0, _ => exact soundAt (B' := w1_Mul.B0) (by kernel_rfl) (by kernel_rfl) (w1_Mul.S0.snd N) hF
  | _ + 1, h => omega
def w1_Mul (a b : Int) : Int := hide ((w1_Mul.o (67) a b).getD (0))
def w1_Mul.g (a b : Int) : Bool := hide (w1_Mul.o (67) a b).isSome
theorem w1_Mul.s (a b : Int) (h : w1_Mul.g a b = true) : w1_Mul.o (67) a b = some (w1_Mul a b) := by
  unfold w1_Mul.g at h; unfold w1_Mul; simp only [hide_eq] at h ⊢; revert h; cases w1_Mul.o (67) a b <;> simp
def w1_Mul.F : FV := mkF (cP (cI .i64) (cP (cI .i64) cU)) (fun | (a, b, ()) => w1_Mul.g a b) (fun | (a, b, ()) => w1_Mul.val (w1_Mul a b))
def L_w1_Mul : TL := (111, w1_Mul.F) :: L_w1_Sub
theorem w1_Mul.t : TabOK P G (tab L_w1_Mul) :=
  TabOK_mkH C w1_Sub.t Tryz.func111 (by kernel_rfl) (fun | (_, (_, ())) => w1_Mul.H (w1_Mul.S0 (67))) (by rintro ⟨a, b, ⟨⟩⟩; exact w1_Mul.lok _) 60 (by
    rintro ⟨a, b, ⟨⟩⟩ h
    exact (w1_Mul.q (67) a b).trans (congrArg (Option.map w1_Mul.val) (w1_Mul.s a b h)))
def w1_Abs.c0 {γ : Type} (n : γ) (k : Int → γ) (a : Int) (t1 : Bool) (t2 t3 t4 : Int) : γ := bif decide (a < 0)
then bif t1
then k (t3)
else n
else k (t4)
def w1_Abs.c {γ : Type} (n : γ) (k : Int → γ) (a : Int) : γ := let t1 := w1_Neg.ok a; let t2 := w1_Neg a; let t3 := IntKind.u64.wrap t2; let t4 := IntKind.u64.wrap a; w1_Abs.c0 n k a t1 t2 t3 t4
def w1_Abs.ok (a : Int) : Bool := w1_Abs.c false (fun _ => true) a
def w1_Abs (a : Int) : Int := w1_Abs.c (0) id a
def w1_Abs.F : FV := mkF (cP (cI .i64) cU) (fun | (a, ()) => w1_Abs.ok a) (fun | (a, ()) => .int .u64 (w1_Abs a))
def L_w1_Abs : TL := (185, w1_Abs.F) :: L_w1_Mul
theorem w1_Abs.p0 {γ : Type} (k : Int → γ) (a t1 t2 t3 t4) : w1_Abs.c0 false (fun _ => true) a t1 t2 t3 t4 = true → w1_Abs.c0 none (fun q => some (k q)) a t1 t2 t3 t4 = some (k (w1_Abs.c0 (0) id a t1 t2 t3 t4)) := by
  unfold w1_Abs.c0; (repeat' (first | (apply pn k) | (exact pn_none _ _) | (exact pn_leaf k _)))
theorem w1_Abs.p {γ : Type} (k : Int → γ) (a : Int) (h : w1_Abs.ok a = true) : w1_Abs.c none (fun q => some (k q)) a = some (k (w1_Abs a)) := by
  revert h; unfold w1_Abs.ok w1_Abs w1_Abs.c; apply w1_Abs.p0
theorem w1_Abs.r (a : Int) : runF P G (tab L_w1_Mul) { merge := true, glue := true } 60 Tryz.f185 [.int .i64 a] = w1_Abs.c none (fun q => some (.int .u64 (q) : Value)) a := by kernel_rfl
theorem w1_Abs.t : TabOK P G (tab L_w1_Abs) :=
  TabOK_mkL C w1_Mul.t Tryz.func185 (by kernel_rfl) { merge := true, glue := true } (fun c _ => LoopsOK_nil c) 60 (by
    rintro ⟨a, ⟨⟩⟩ h
    exact (w1_Abs.r a).trans (w1_Abs.p (fun q => (.int .u64 (q) : Value)) a h))
def w1_long.val (q : Int × Int) : Value := .tuple #[.int .u64 (q).1, .int .u64 (q).2]
def w1_long.h : List (Nat × List Nat × Nat) := [(3, [0, 1, 6, 7, 8], 0)]
def w1_long.e0 (q : Int × Int × Int × Int × Int) : St := { tmps := [.val (.int .u64 (q).1), .val (.int .u64 (q).2.1), .unk, .unk, .unk, .unk, .val (.int .u64 (q).2.2.1), .val (.int .u64 (q).2.2.2.1), .val (.int .i64 (q).2.2.2.2), .unk, .unk, .unk, .unk, .unk, .unk, .unk, .unk, .unk, .unk, .unk, .unk, .unk, .unk, .unk, .unk, .unk, .unk, .unk, .unk, .unk, .unk, .unk, .unk, .unk, .unk, .unk, .unk, .unk], blks := [], saved := [] }
noncomputable def w1_long.B0 : Code := loopAt [1, 1, 0, 1, 0] (fbody Tryz.f197)
noncomputable def w1_long.H (F0 : LSum) : Heads := { heads := w1_long.h, merge := true, sums := [(3, F0)] }
noncomputable def w1_long.H0  : Heads := { heads := w1_long.h, merge := true, sums := [] }
noncomputable def w1_long.K0 (F0 : LSum) : Xt → St → Option Value := kAt P G (tab L_w1_Abs) (w1_long.H F0) [1, 1, 0, 1, 0] 60 (fbody Tryz.f197) (retK P G Tryz.f197)
def w1_long.l0.c0 {γ : Type} (k0 : Int × Int × Int × Int × Int → Option γ) (k : Int × Int → Option γ) (s0 s1 s6 s7 s8 t1 t2 t3 t4 : Int) (t5 : Bool) (t6 t7 : Int) : Option γ := bif decide (s8 ≥ 0)
then bif !decide (s8 < 0)
then bif decide (s7 ≥ 9223372036854775808)
then bif !decide (s8 < 0) && true && true || !decide (s8 < 0) && true
then k0 (s0, s1, orI IntKind.u64 s6 t1, t3, t4)
else none
else bif !decide (s8 < 0) && true && true || t5
then k0 (s0, s1, t6, t7, t4)
else none
else none
else k (s6, s7)
def w1_long.l0.c {γ : Type} (k0 : Int × Int × Int × Int × Int → Option γ) (k : Int × Int → Option γ) (s0 s1 s6 s7 s8 : Int) : Option γ := let t1 := IntKind.u64.wrap (1 * 2 ^ min s8.toNat IntKind.u64.bits); let t2 := IntKind.u64.wrap (s7 * 2 ^ min (Int.toNat 1) IntKind.u64.bits); let t3 := IntKind.u64.wrap (orI IntKind.u64 t2 ((s0.fdiv (2 ^ min s8.toNat IntKind.u64.bits)).tmod 2) - s1); let t4 := IntKind.i64.wrap (s8 - 1); let t5 := bif decide (orI IntKind.u64 t2 ((s0.fdiv (2 ^ min s8.toNat IntKind.u64.bits)).tmod 2) ≥ s1) then !decide (s8 < 0) && true else true; let t6 := bif decide (orI IntKind.u64 t2 ((s0.fdiv (2 ^ min s8.toNat IntKind.u64.bits)).tmod 2) ≥ s1) then orI IntKind.u64 s6 t1 else s6; let t7 := bif decide (orI IntKind.u64 t2 ((s0.fdiv (2 ^ min s8.toNat IntKind.u64.bits)).tmod 2) ≥ s1) then t3 else orI IntKind.u64 t2 ((s0.fdiv (2 ^ min s8.toNat IntKind.u64.bits)).tmod 2); w1_long.l0.c0 k0 k s0 s1 s6 s7 s8 t1 t2 t3 t4 t5 t6 t7
def w1_long.c {γ : Type} (k0 : Int × Int × Int × Int × Int → Option γ) (k : Int × Int → Option γ) (a b : Int) : Option γ := k0 (a, b, 0, 0, 63)
def w1_long.L0 (N : Nat)  : Nat → Int × Int × Int × Int × Int → Option (Int × Int)
  | 0, _ => none
  | m + 1, q => w1_long.l0.c (w1_long.L0 N m) some (q).1 (q).2.1 (q).2.2.1 (q).2.2.2.1 (q).2.2.2.2
def w1_long.o (N : Nat) (a b : Int) : Option (Int × Int) := w1_long.c (w1_long.L0 N  N) some a b
noncomputable def w1_long.S0 (N : Nat) : LSum := sumN P G (tab L_w1_Abs) (w1_long.H0 ) 60 w1_long.B0 N
theorem w1_long.l0.p0 {γ δ : Type} (f : γ → δ) (k0 : Int × Int × Int × Int × Int → Option γ) (k : Int × Int → Option γ) (s0 s1 s6 s7 s8 t1 t2 t3 t4 t5 t6 t7) : w1_long.l0.c0 (fun q => (k0 q).map f) (fun q => (k q).map f) s0 s1 s6 s7 s8 t1 t2 t3 t4 t5 t6 t7 = (w1_long.l0.c0 k0 k s0 s1 s6 s7 s8 t1 t2 t3 t4 t5 t6 t7).map f := by
  unfold w1_long.l0.c0; (repeat' (first | (apply pm f) | (exact rfl)))
theorem w1_long.l0.p {γ δ : Type} (f : γ → δ) (k0 : Int × Int × Int × Int × Int → Option γ) (k : Int × Int → Option γ) (s0 s1 s6 s7 s8 : Int) : w1_long.l0.c (fun q => (k0 q).map f) (fun q => (k q).map f) s0 s1 s6 s7 s8 = (w1_long.l0.c k0 k s0 s1 s6 s7 s8).map f := by
  unfold w1_long.l0.c; apply w1_long.l0.p0
theorem w1_long.p {γ δ : Type} (f : γ → δ) (k0 : Int × Int × Int × Int × Int → Option γ) (k : Int × Int → Option γ) (a b : Int) : w1_long.c (fun q => (k0 q).map f) (fun q => (k q).map f) a b = (w1_long.c k0 k a b).map f := by
  unfold w1_long.c; (repeat' (first | (apply pm f) | (exact rfl)))
theorem w1_long.S0.ok (N : Nat) : LoopsOK P G (w1_long.H0 ).sums w1_long.B0 := by
  refine LoopsOK_code fun i hi F hF => ?_
  have hlen : (loopsOf w1_long.B0).length = 0 := by kernel_rfl
  rw [hlen] at hi
  omega
theorem w1_long.S0.snd (N : Nat) : SoundL P G w1_long.B0 (w1_long.S0 N) := sumN_sound C.mixed C.names w1_Abs.t (w1_long.S0.ok N) N
theorem w1_long.l0.r (F0 G0 : LSum) (s0 s1 s6 s7 s8 : Int) : ex P G (tab L_w1_Abs) (w1_long.H0 ) 60 w1_long.B0 (w1_long.e0 (s0, s1, s6, s7, s8)) (roundK (w1_long.H0 ) w1_long.B0 G0 (w1_long.K0 F0)) = w1_long.l0.c (fun q => G0.run (w1_long.e0 q) (w1_long.K0 F0)) (fun q => some (w1_long.val q)) s0 s1 s6 s7 s8 := by kernel_rfl
theorem w1_long.r (F0 : LSum) (a b : Int) : runF P G (tab L_w1_Abs) (w1_long.H F0) 60 Tryz.f197 [.int .u64 a, .int .u64 b] = w1_long.c (fun q => F0.run (w1_long.e0 q) (w1_long.K0 F0)) (fun q => some (w1_long.val q)) a b := by kernel_rfl
theorem w1_long.L0.ok (N : Nat) (F0 : LSum)   : ∀ m q, (sumN P G (tab L_w1_Abs) (w1_long.H0 ) 60 w1_long.B0 m).run (w1_long.e0 q) (w1_long.K0 F0) = (w1_long.L0 N  m q).map w1_long.val
  | 0, q => rfl
  | m + 1, q => by
    have ih := w1_long.L0.ok N F0   m
    refine (sumN_run (n := m) rfl).trans ((w1_long.l0.r F0 (sumN P G (tab L_w1_Abs) (w1_long.H0 ) 60 w1_long.B0 m) (q).1 (q).2.1 (q).2.2.1 (q).2.2.2.1 (q).2.2.2.2).trans ?_)
    refine Eq.trans ?_ (w1_long.l0.p w1_long.val (w1_long.L0 N m) some (q).1 (q).2.1 (q).2.2.1 (q).2.2.2.1 (q).2.2.2.2)
    have e0 : (fun q => (sumN P G (tab L_w1_Abs) (w1_long.H0 ) 60 w1_long.B0 m).run (w1_long.e0 q) (w1_long.K0 F0)) = (fun q => ((w1_long.L0 N m) q).map w1_long.val) := funext ih
    rw [e0]; rfl
theorem w1_long.q (N : Nat) (a b : Int) : runF P G (tab L_w1_Abs) (w1_long.H (w1_long.S0 N)) 60 Tryz.f197 [.int .u64 a, .int .u64 b] = (w1_long.o N a b).map w1_long.val := by
  have hk0 := w1_long.L0.ok N (w1_long.S0 N)   N
  refine (w1_long.r (w1_long.S0 N) a b).trans ?_
  refine Eq.trans ?_ (w1_long.p w1_long.val (w1_long.L0 N  N) some a b)
  have e0 : (fun q => (w1_long.S0 N).run (w1_long.e0 q) (w1_long.K0 (w1_long.S0 N))) = (fun q => ((w1_long.L0 N  N) q).map w1_long.val) := funext hk0
  rw [e0]; rfl
theorem w1_long.lok (N : Nat) : LoopsOK P G (w1_long.H (w1_long.S0 N)).sums (fbody Tryz.f197) := by
  refine LoopsOK_code fun i hi F hF => ?_
  have hlen : (loopsOf (fbody Tryz.f197)).length = 1 := by kernel_rfl
  rw [hlen] at hi
  match i, hi with
  | 0, _ => exact soundAt (B' := w1_long.B0) (by kernel_rfl) (by kernel_rfl) (w1_long.S0.snd N) hF
  | _ + 1, h => omega
def w1_long (a b : Int) : Int × Int := hide ((w1_long.o (67) a b).getD (0, 0))
def w1_long.g (a b : Int) : Bool := hide (w1_long.o (67) a b).isSome
theorem w1_long.s (a b : Int) (h : w1_long.g a b = true) : w1_long.o (67) a b = some (w1_long a b) := by
  unfold w1_long.g at h; unfold w1_long; simp only [hide_eq] at h ⊢; revert h; cases w1_long.o (67) a b <;> simp
def w1_long.F : FV := mkF (cP (cI .u64) (cP (cI .u64) cU)) (fun | (a, b, ()) => w1_long.g a b) (fun | (a, b, ()) => w1_long.val (w1_long a b))
def L_w1_long : TL := (197, w1_long.F) :: L_w1_Abs
theorem w1_long.t : TabOK P G (tab L_w1_long) :=
  TabOK_mkH C w1_Abs.t Tryz.func197 (by kernel_rfl) (fun | (_, (_, ())) => w1_long.H (w1_long.S0 (67))) (by rintro ⟨a, b, ⟨⟩⟩; exact w1_long.lok _) 60 (by
    rintro ⟨a, b, ⟨⟩⟩ h
    exact (w1_long.q (67) a b).trans (congrArg (Option.map w1_long.val) (w1_long.s a b h)))
def w1_Div.c0 {γ : Type} (n : γ) (k : Int × Bool → γ) (a b : Int) (t1 t2 : Bool) (t3 t4 : Int) (t5 : Bool) (t6 : Int × Int) (t7 : Int) (t8 : Bool) (t9 : Int) : γ := bif b == 0
then k (0, false)
else bif t1
then bif t2
then bif t5
then bif !decide (a < 0) == decide (b < 0)
then bif t8
then k (t9, true)
else n
else k (t7, true)
else n
else n
else n
def w1_Div.c {γ : Type} (n : γ) (k : Int × Bool → γ) (a b : Int) : γ := let t1 := w1_Abs.ok a; let t2 := w1_Abs.ok b; let t3 := w1_Abs a; let t4 := w1_Abs b; let t5 := w1_long.g t3 t4; let t6 := w1_long t3 t4; let t7 := IntKind.i64.wrap t6.1; let t8 := w1_Neg.ok t7; let t9 := w1_Neg t7; w1_Div.c0 n k a b t1 t2 t3 t4 t5 t6 t7 t8 t9
def w1_Div.ok (a b : Int) : Bool := w1_Div.c false (fun _ => true) a b
def w1_Div (a b : Int) : Int × Bool := w1_Div.c (0, false) id a b
def w1_Div.F : FV := mkF (cP (cI .i64) (cP (cI .i64) cU)) (fun | (a, b, ()) => w1_Div.ok a b) (fun | (a, b, ()) => v0 (w1_Div a b))
def L_w1_Div : TL := (112, w1_Div.F) :: L_w1_long
theorem w1_Div.p0 {γ : Type} (k : Int × Bool → γ) (a b t1 t2 t3 t4 t5 t6 t7 t8 t9) : w1_Div.c0 false (fun _ => true) a b t1 t2 t3 t4 t5 t6 t7 t8 t9 = true → w1_Div.c0 none (fun q => some (k q)) a b t1 t2 t3 t4 t5 t6 t7 t8 t9 = some (k (w1_Div.c0 (0, false) id a b t1 t2 t3 t4 t5 t6 t7 t8 t9)) := by
  unfold w1_Div.c0; (repeat' (first | (apply pn k) | (exact pn_none _ _) | (exact pn_leaf k _)))
theorem w1_Div.p {γ : Type} (k : Int × Bool → γ) (a b : Int) (h : w1_Div.ok a b = true) : w1_Div.c none (fun q => some (k q)) a b = some (k (w1_Div a b)) := by
  revert h; unfold w1_Div.ok w1_Div w1_Div.c; apply w1_Div.p0
theorem w1_Div.r (a b : Int) : runF P G (tab L_w1_long) { merge := true, glue := true } 60 Tryz.f112 [.int .i64 a, .int .i64 b] = w1_Div.c none (fun q => some (v0 q)) a b := by kernel_rfl
theorem w1_Div.t : TabOK P G (tab L_w1_Div) :=
  TabOK_mkL C w1_long.t Tryz.func112 (by kernel_rfl) { merge := true, glue := true } (fun c _ => LoopsOK_nil c) 60 (by
    rintro ⟨a, b, ⟨⟩⟩ h
    exact (w1_Div.r a b).trans (w1_Div.p v0 a b h))
def w1_Rem.c0 {γ : Type} (n : γ) (k : Int × Bool → γ) (a b : Int) (t1 t2 : Bool) (t3 t4 : Int) (t5 : Bool) (t6 : Int × Int) (t7 : Int) (t8 : Bool) (t9 : Int) : γ := bif b == 0
then k (0, false)
else bif t1
then bif t2
then bif t5
then bif decide (a < 0)
then bif t8
then k (t9, true)
else n
else k (t7, true)
else n
else n
else n
def w1_Rem.c {γ : Type} (n : γ) (k : Int × Bool → γ) (a b : Int) : γ := let t1 := w1_Abs.ok a; let t2 := w1_Abs.ok b; let t3 := w1_Abs a; let t4 := w1_Abs b; let t5 := w1_long.g t3 t4; let t6 := w1_long t3 t4; let t7 := IntKind.i64.wrap t6.2; let t8 := w1_Neg.ok t7; let t9 := w1_Neg t7; w1_Rem.c0 n k a b t1 t2 t3 t4 t5 t6 t7 t8 t9
def w1_Rem.ok (a b : Int) : Bool := w1_Rem.c false (fun _ => true) a b
def w1_Rem (a b : Int) : Int × Bool := w1_Rem.c (0, false) id a b
def w1_Rem.F : FV := mkF (cP (cI .i64) (cP (cI .i64) cU)) (fun | (a, b, ()) => w1_Rem.ok a b) (fun | (a, b, ()) => v0 (w1_Rem a b))
def L_w1_Rem : TL := (113, w1_Rem.F) :: L_w1_Div
theorem w1_Rem.p0 {γ : Type} (k : Int × Bool → γ) (a b t1 t2 t3 t4 t5 t6 t7 t8 t9) : w1_Rem.c0 false (fun _ => true) a b t1 t2 t3 t4 t5 t6 t7 t8 t9 = true → w1_Rem.c0 none (fun q => some (k q)) a b t1 t2 t3 t4 t5 t6 t7 t8 t9 = some (k (w1_Rem.c0 (0, false) id a b t1 t2 t3 t4 t5 t6 t7 t8 t9)) := by
  unfold w1_Rem.c0; (repeat' (first | (apply pn k) | (exact pn_none _ _) | (exact pn_leaf k _)))
theorem w1_Rem.p {γ : Type} (k : Int × Bool → γ) (a b : Int) (h : w1_Rem.ok a b = true) : w1_Rem.c none (fun q => some (k q)) a b = some (k (w1_Rem a b)) := by
  revert h; unfold w1_Rem.ok w1_Rem w1_Rem.c; apply w1_Rem.p0
theorem w1_Rem.r (a b : Int) : runF P G (tab L_w1_Div) { merge := true, glue := true } 60 Tryz.f113 [.int .i64 a, .int .i64 b] = w1_Rem.c none (fun q => some (v0 q)) a b := by kernel_rfl
theorem w1_Rem.t : TabOK P G (tab L_w1_Rem) :=
  TabOK_mkL C w1_Div.t Tryz.func113 (by kernel_rfl) { merge := true, glue := true } (fun c _ => LoopsOK_nil c) 60 (by
    rintro ⟨a, b, ⟨⟩⟩ h
    exact (w1_Rem.r a b).trans (w1_Rem.p v0 a b h))
end
end Go.Proofs.YtonpbbhlmapbdaaGreatDoor.V
