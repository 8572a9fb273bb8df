/- What the functions of this seat compute, told by evaluation of their code. Conditions: none. -/
import Derived.Test.YtfcgmfefdgcmjaaDoorE1
set_option linter.unusedVariables false
set_option linter.unusedSimpArgs false
namespace Go.Proofs.YtfcgmfefdgcmjaaDoor.V
open Go Go.Wk
noncomputable section

def w1_Add.val (q : Int) : Value := .int .i64 (q)
def w1_Add.h : List (Nat × List Nat × Nat) := [(2, [5, 6], 0)]
def w1_Add.e0 (q : Int × Int) : St := { tmps := [.unk, .unk, .unk, .unk, .unk, .val (.int .u64 (q).1), .val (.int .u64 (q).2), .unk, .unk, .unk, .unk, .unk, .unk, .unk, .unk, .unk, .unk, .unk, .unk, .unk, .unk, .unk, .unk, .unk], blks := [], saved := [] }
noncomputable def w1_Add.B0 : Code := loopAt [1, 1, 0, 0] (fbody Tryd.f26)
noncomputable def w1_Add.H (F0 : LSum) : Heads := { heads := w1_Add.h, merge := true, sums := [(2, F0)] }
noncomputable def w1_Add.H0  : Heads := { heads := w1_Add.h, merge := true, sums := [] }
noncomputable def w1_Add.K0 (F0 : LSum) : Xt → St → Option Value := kAt P G (tab L_law_taken) (w1_Add.H F0) [1, 1, 0, 0] 60 (fbody Tryd.f26) (retK P G Tryd.f26)
def w1_Add.l0.c0 {γ : Type} (k0 : Int × Int → Option γ) (k : Int → Option γ) (s5 : Int) (s6 : Int) (t1 : Int) (t2 : Int) : Option γ := bif s6 != 0
  then k0 (xorI IntKind.u64 s5 s6, t1)
  else k (t2)
def w1_Add.l0.c {γ : Type} (k0 : Int × Int → Option γ) (k : Int → Option γ) (s5 : Int) (s6 : Int) : Option γ := let t1 := IntKind.u64.wrap (andI IntKind.u64 s5 s6 * 2 ^ min (Int.toNat 1) IntKind.u64.bits); let t2 := IntKind.i64.wrap s5; w1_Add.l0.c0 k0 k s5 s6 t1 t2
def w1_Add.c0 {γ : Type} (k0 : Int × Int → Option γ) (k : Int → Option γ) (a : Int) (b : Int) (t1 : Int) (t2 : Int) : Option γ := k0 (t1, t2)
def w1_Add.c {γ : Type} (k0 : Int × Int → Option γ) (k : Int → Option γ) (a : Int) (b : Int) : Option γ := let t1 := IntKind.u64.wrap a; let t2 := IntKind.u64.wrap b; w1_Add.c0 k0 k a b t1 t2
def w1_Add.L0 (N : Nat)  : Nat → Int × Int → Option (Int)
  | 0, _ => none
  | m + 1, q => w1_Add.l0.c (w1_Add.L0 N m) some (q).1 (q).2
def w1_Add.o (N : Nat) (a : Int) (b : Int) : Option (Int) := w1_Add.c (w1_Add.L0 N  N) some a b
noncomputable def w1_Add.S0 (N : Nat) : LSum := sumN P G (tab L_law_taken) (w1_Add.H0 ) 60 w1_Add.B0 N
theorem w1_Add.l0.p0 {γ δ : Type} (f : γ → δ) (k0 : Int × Int → Option γ) (k : Int → Option γ) (s5 : Int) (s6 : Int) (t1 : Int) (t2 : Int) : w1_Add.l0.c0 (fun q => (k0 q).map f) (fun q => (k q).map f) s5 s6 t1 t2 = (w1_Add.l0.c0 k0 k s5 s6 t1 t2).map f := by
  unfold w1_Add.l0.c0; (repeat' (first | (apply pm f) | (exact rfl)))
theorem w1_Add.l0.p {γ δ : Type} (f : γ → δ) (k0 : Int × Int → Option γ) (k : Int → Option γ) (s5 : Int) (s6 : Int) : w1_Add.l0.c (fun q => (k0 q).map f) (fun q => (k q).map f) s5 s6 = (w1_Add.l0.c k0 k s5 s6).map f :=
  let t1 := IntKind.u64.wrap (andI IntKind.u64 s5 s6 * 2 ^ min (Int.toNat 1) IntKind.u64.bits); let t2 := IntKind.i64.wrap s5; w1_Add.l0.p0 f k0 k s5 s6 t1 t2
theorem w1_Add.p0 {γ δ : Type} (f : γ → δ) (k0 : Int × Int → Option γ) (k : Int → Option γ) (a : Int) (b : Int) (t1 : Int) (t2 : Int) : w1_Add.c0 (fun q => (k0 q).map f) (fun q => (k q).map f) a b t1 t2 = (w1_Add.c0 k0 k a b t1 t2).map f := by
  unfold w1_Add.c0; (repeat' (first | (apply pm f) | (exact rfl)))
theorem w1_Add.p {γ δ : Type} (f : γ → δ) (k0 : Int × Int → Option γ) (k : Int → Option γ) (a : Int) (b : Int) : w1_Add.c (fun q => (k0 q).map f) (fun q => (k q).map f) a b = (w1_Add.c k0 k a b).map f :=
  let t1 := IntKind.u64.wrap a; let t2 := IntKind.u64.wrap b; w1_Add.p0 f k0 k a b t1 t2
theorem w1_Add.S0.ok (N : Nat) : LoopsOK P G (w1_Add.H0 ).sums w1_Add.B0 := by
  refine LoopsOK_code fun i hi F hF => ?_
  have hlen : (loopsOf w1_Add.B0).length = 0 := by kernel_rfl
  rw [hlen] at hi
  omega

theorem w1_Add.S0.snd (N : Nat) : SoundL P G w1_Add.B0 (w1_Add.S0 N) := sumN_sound C.mixed C.names law_taken.t (w1_Add.S0.ok N) N
theorem w1_Add.l0.r (F0 G0 : LSum) (s5 : Int) (s6 : Int) : ex P G (tab L_law_taken) (w1_Add.H0 ) 60 w1_Add.B0 (w1_Add.e0 (s5, s6)) (roundK (w1_Add.H0 ) w1_Add.B0 G0 (w1_Add.K0 F0)) = w1_Add.l0.c (fun q => G0.run (w1_Add.e0 q) (w1_Add.K0 F0)) (fun q => some (w1_Add.val q)) s5 s6 := by kernel_rfl
theorem w1_Add.r (F0 : LSum) (a : Int) (b : Int) : runF P G (tab L_law_taken) (w1_Add.H F0) 60 Tryd.f26 [.int .i64 a, .int .i64 b] = w1_Add.c (fun q => F0.run (w1_Add.e0 q) (w1_Add.K0 F0)) (fun q => some (w1_Add.val q)) a b := by kernel_rfl
theorem w1_Add.L0.ok (N : Nat) (F0 : LSum)   : ∀ m q, (sumN P G (tab L_law_taken) (w1_Add.H0 ) 60 w1_Add.B0 m).run (w1_Add.e0 q) (w1_Add.K0 F0) = (w1_Add.L0 N  m q).map w1_Add.val
  | 0, q => rfl
  | m + 1, q => by
    have ih := w1_Add.L0.ok N F0   m
    refine (sumN_run (n := m) rfl).trans ((w1_Add.l0.r F0 (sumN P G (tab L_law_taken) (w1_Add.H0 ) 60 w1_Add.B0 m) (q).1 (q).2).trans ?_)
    refine Eq.trans ?_ (w1_Add.l0.p w1_Add.val (w1_Add.L0 N m) some (q).1 (q).2)
    have e0 : (fun q => (sumN P G (tab L_law_taken) (w1_Add.H0 ) 60 w1_Add.B0 m).run (w1_Add.e0 q) (w1_Add.K0 F0)) = (fun q => ((w1_Add.L0 N m) q).map w1_Add.val) := funext ih
    rw [e0]; rfl

theorem w1_Add.q (N : Nat) (a : Int) (b : Int) : runF P G (tab L_law_taken) (w1_Add.H (w1_Add.S0 N)) 60 Tryd.f26 [.int .i64 a, .int .i64 b] = (w1_Add.o N a b).map w1_Add.val := by
  have hk0 := w1_Add.L0.ok N (w1_Add.S0 N)   N
  refine (w1_Add.r (w1_Add.S0 N) a b).trans ?_
  refine Eq.trans ?_ (w1_Add.p w1_Add.val (w1_Add.L0 N  N) some a b)
  have e0 : (fun q => (w1_Add.S0 N).run (w1_Add.e0 q) (w1_Add.K0 (w1_Add.S0 N))) = (fun q => ((w1_Add.L0 N  N) q).map w1_Add.val) := funext hk0
  rw [e0]; rfl

theorem w1_Add.lok (N : Nat) : LoopsOK P G (w1_Add.H (w1_Add.S0 N)).sums (fbody Tryd.f26) := by
  refine LoopsOK_code fun i hi F hF => ?_
  have hlen : (loopsOf (fbody Tryd.f26)).length = 1 := by kernel_rfl
  rw [hlen] at hi
  match i, hi with
  | 0, _ => exact soundAt (B' := w1_Add.B0) (by kernel_rfl) (by kernel_rfl) (w1_Add.S0.snd N) hF
  | _ + 1, h => omega

def w1_Add (a : Int) (b : Int) : Int := hide ((w1_Add.o (67) a b).getD (0))
def w1_Add.g (a : Int) (b : Int) : Bool := hide (w1_Add.o (67) a b).isSome
theorem w1_Add.s (a : Int) (b : Int) (h : w1_Add.g a b = true) : w1_Add.o (67) a b = some (w1_Add a b) := by
  unfold w1_Add.g at h; unfold w1_Add; simp only [hide_eq] at h ⊢; revert h; cases w1_Add.o (67) a b <;> simp
def w1_Add.F : FV := mkF (cP (cI .i64) (cP (cI .i64) cU)) (fun | (a, (b, ())) => w1_Add.g a b) (fun | (a, (b, ())) => w1_Add.val (w1_Add a b))
def L_w1_Add : TL := (26, w1_Add.F) :: L_law_taken
theorem w1_Add.t : TabOK P G (tab L_w1_Add) :=
  TabOK_mkH C law_taken.t Tryd.func26 (by kernel_rfl) (fun | (_, (_, ())) => w1_Add.H (w1_Add.S0 (67))) (by rintro ⟨a, ⟨b, ⟨⟩⟩⟩; exact w1_Add.lok _) 60 (by
    rintro ⟨a, ⟨b, ⟨⟩⟩⟩ h
    exact (w1_Add.q (67) a b).trans (congrArg (Option.map w1_Add.val) (w1_Add.s a b h)))

def w1_Neg.c0 {γ : Type} (n : γ) (k : Int → γ) (a : Int) (t1 : Int) (t2 : Int) (t3 : Int) (t4 : Bool) (t5 : Int) : γ := bif t4
  then k (t5)
  else n
def w1_Neg.c {γ : Type} (n : γ) (k : Int → γ) (a : Int) : γ := let t1 := if IntKind.u64.signed = true then -1 else IntKind.u64.max; let t2 := IntKind.u64.wrap a; let t3 := IntKind.i64.wrap (xorI IntKind.u64 t1 t2); let t4 := w1_Add.g t3 1; let t5 := w1_Add t3 1; w1_Neg.c0 n k a t1 t2 t3 t4 t5
def w1_Neg.ok (a : Int) : Bool := w1_Neg.c false (fun _ => true) a
def w1_Neg (a : Int) : Int := w1_Neg.c (0) id a
def w1_Neg.F : FV := mkF (cP (cI .i64) cU) (fun | (a, ()) => w1_Neg.ok a) (fun | (a, ()) => .int .i64 (w1_Neg a))
def L_w1_Neg : TL := (29, w1_Neg.F) :: L_w1_Add
theorem w1_Neg.p0 {γ : Type} (k : Int → γ) (a : Int) (t1 : Int) (t2 : Int) (t3 : Int) (t4 : Bool) (t5 : Int) : w1_Neg.c0 false (fun _ => true) a t1 t2 t3 t4 t5 = true → w1_Neg.c0 none (fun q => some (k q)) a t1 t2 t3 t4 t5 = some (k (w1_Neg.c0 (0) id a t1 t2 t3 t4 t5)) := by
  unfold w1_Neg.c0; (repeat' (first | (apply pn k) | (exact pn_none _ _) | (exact pn_leaf k _)))
theorem w1_Neg.p {γ : Type} (k : Int → γ) (a : Int) (h : w1_Neg.ok a = true) : w1_Neg.c none (fun q => some (k q)) a = some (k (w1_Neg a)) :=
  let t1 := if IntKind.u64.signed = true then -1 else IntKind.u64.max; let t2 := IntKind.u64.wrap a; let t3 := IntKind.i64.wrap (xorI IntKind.u64 t1 t2); let t4 := w1_Add.g t3 1; let t5 := w1_Add t3 1; w1_Neg.p0 k a t1 t2 t3 t4 t5 h
theorem w1_Neg.r (a : Int) : runF P G (tab L_w1_Add) { merge := true, glue := true } 60 Tryd.f29 [.int .i64 a] = w1_Neg.c none (fun q => some (.int .i64 (q) : Value)) a := by kernel_rfl
theorem w1_Neg.t : TabOK P G (tab L_w1_Neg) :=
  TabOK_mkL C w1_Add.t Tryd.func29 (by kernel_rfl) { merge := true, glue := true } (fun c _ => LoopsOK_nil c) 60 (by
    rintro ⟨a, ⟨⟩⟩ h
    exact (w1_Neg.r a).trans (w1_Neg.p (fun q => (.int .i64 (q) : Value)) a h))

def w1_Sub.c0 {γ : Type} (n : γ) (k : Int → γ) (a : Int) (b : Int) (t1 : Bool) (t2 : Int) (t3 : Bool) (t4 : Int) : γ := bif t1
  then bif t3
   then k (t4)
   else n
  else n
def w1_Sub.c {γ : Type} (n : γ) (k : Int → γ) (a : Int) (b : Int) : γ := let t1 := w1_Neg.ok b; let t2 := w1_Neg b; let t3 := w1_Add.g a t2; let t4 := w1_Add a t2; w1_Sub.c0 n k a b t1 t2 t3 t4
def w1_Sub.ok (a : Int) (b : Int) : Bool := w1_Sub.c false (fun _ => true) a b
def w1_Sub (a : Int) (b : Int) : Int := w1_Sub.c (0) id a b
def w1_Sub.F : FV := mkF (cP (cI .i64) (cP (cI .i64) cU)) (fun | (a, (b, ())) => w1_Sub.ok a b) (fun | (a, (b, ())) => .int .i64 (w1_Sub a b))
def L_w1_Sub : TL := (27, w1_Sub.F) :: L_w1_Neg
theorem w1_Sub.p0 {γ : Type} (k : Int → γ) (a : Int) (b : Int) (t1 : Bool) (t2 : Int) (t3 : Bool) (t4 : Int) : w1_Sub.c0 false (fun _ => true) a b t1 t2 t3 t4 = true → w1_Sub.c0 none (fun q => some (k q)) a b t1 t2 t3 t4 = some (k (w1_Sub.c0 (0) id a b t1 t2 t3 t4)) := by
  unfold w1_Sub.c0; (repeat' (first | (apply pn k) | (exact pn_none _ _) | (exact pn_leaf k _)))
theorem w1_Sub.p {γ : Type} (k : Int → γ) (a : Int) (b : Int) (h : w1_Sub.ok a b = true) : w1_Sub.c none (fun q => some (k q)) a b = some (k (w1_Sub a b)) :=
  let t1 := w1_Neg.ok b; let t2 := w1_Neg b; let t3 := w1_Add.g a t2; let t4 := w1_Add a t2; w1_Sub.p0 k a b t1 t2 t3 t4 h
theorem w1_Sub.r (a : Int) (b : Int) : runF P G (tab L_w1_Neg) { merge := true, glue := true } 60 Tryd.f27 [.int .i64 a, .int .i64 b] = w1_Sub.c none (fun q => some (.int .i64 (q) : Value)) a b := by kernel_rfl
theorem w1_Sub.t : TabOK P G (tab L_w1_Sub) :=
  TabOK_mkL C w1_Neg.t Tryd.func27 (by kernel_rfl) { merge := true, glue := true } (fun c _ => LoopsOK_nil c) 60 (by
    rintro ⟨a, ⟨b, ⟨⟩⟩⟩ h
    exact (w1_Sub.r a b).trans (w1_Sub.p (fun q => (.int .i64 (q) : Value)) a b h))

def w1_Mul.val (q : Int) : Value := .int .i64 (q)
def w1_Mul.h : List (Nat × List Nat × Nat) := [(4, [1, 5, 6, 7], 0)]
def w1_Mul.e0 (q : Int × Int × Int × Int) : St := { tmps := [.unk, .val (.int .i64 (q).1), .unk, .unk, .unk, .val (.int .i64 (q).2.1), .val (.int .u64 (q).2.2.1), .val (.int .i64 (q).2.2.2), .unk, .unk, .unk, .unk, .unk, .unk, .unk, .unk, .unk, .unk, .unk, .unk, .unk, .unk, .unk, .unk, .unk, .unk, .unk], blks := [], saved := [] }
noncomputable def w1_Mul.B0 : Code := loopAt [1, 1, 1, 0, 1, 0] (fbody Tryd.f28)
noncomputable def w1_Mul.H (F0 : LSum) : Heads := { heads := w1_Mul.h, merge := true, sums := [(4, F0)] }
noncomputable def w1_Mul.H0  : Heads := { heads := w1_Mul.h, merge := true, sums := [] }
noncomputable def w1_Mul.K0 (F0 : LSum) : Xt → St → Option Value := kAt P G (tab L_w1_Sub) (w1_Mul.H F0) [1, 1, 1, 0, 1, 0] 60 (fbody Tryd.f28) (retK P G Tryd.f28)
def w1_Mul.l0.c0 {γ : Type} (k0 : Int × Int × Int × Int → Option γ) (k : Int → Option γ) (s1 : Int) (s5 : Int) (s6 : Int) (s7 : Int) (t1 : Int) (t2 : Int) (t3 : Bool) (t4 : Int) (t5 : Bool) (t6 : Int) (t7 : Int) (t8 : Int) : Option γ := bif decide (s7 < 64)
  then bif !decide (s7 < 0)
   then bif !decide (s7 < 0) && (t3 && true) && true || t5
    then k0 (s1, t7, s6, t8)
    else none
   else none
  else k (s5)
def w1_Mul.l0.c {γ : Type} (k0 : Int × Int × Int × Int → Option γ) (k : Int → Option γ) (s1 : Int) (s5 : Int) (s6 : Int) (s7 : Int) : Option γ := let t1 := IntKind.u64.wrap (s6 * 2 ^ min s7.toNat IntKind.u64.bits); let t2 := IntKind.i64.wrap t1; let t3 := w1_Add.g s5 t2; let t4 := IntKind.u64.wrap s1; let t5 := bif (t4.fdiv (2 ^ min s7.toNat IntKind.u64.bits)).tmod 2 == 1 then !decide (s7 < 0) && (t3 && true) else true; let t6 := w1_Add s5 t2; let t7 := bif (t4.fdiv (2 ^ min s7.toNat IntKind.u64.bits)).tmod 2 == 1 then t6 else s5; let t8 := IntKind.i64.wrap (s7 + 1); w1_Mul.l0.c0 k0 k s1 s5 s6 s7 t1 t2 t3 t4 t5 t6 t7 t8
def w1_Mul.c0 {γ : Type} (k0 : Int × Int × Int × Int → Option γ) (k : Int → Option γ) (a : Int) (b : Int) (t1 : Int) : Option γ := k0 (b, 0, t1, 0)
def w1_Mul.c {γ : Type} (k0 : Int × Int × Int × Int → Option γ) (k : Int → Option γ) (a : Int) (b : Int) : Option γ := let t1 := IntKind.u64.wrap a; w1_Mul.c0 k0 k a b t1
def w1_Mul.L0 (N : Nat)  : Nat → Int × Int × Int × Int → Option (Int)
  | 0, _ => none
  | m + 1, q => w1_Mul.l0.c (w1_Mul.L0 N m) some (q).1 (q).2.1 (q).2.2.1 (q).2.2.2
def w1_Mul.o (N : Nat) (a : Int) (b : Int) : Option (Int) := w1_Mul.c (w1_Mul.L0 N  N) some a b
noncomputable def w1_Mul.S0 (N : Nat) : LSum := sumN P G (tab L_w1_Sub) (w1_Mul.H0 ) 60 w1_Mul.B0 N
theorem w1_Mul.l0.p0 {γ δ : Type} (f : γ → δ) (k0 : Int × Int × Int × Int → Option γ) (k : Int → Option γ) (s1 : Int) (s5 : Int) (s6 : Int) (s7 : Int) (t1 : Int) (t2 : Int) (t3 : Bool) (t4 : Int) (t5 : Bool) (t6 : Int) (t7 : Int) (t8 : Int) : w1_Mul.l0.c0 (fun q => (k0 q).map f) (fun q => (k q).map f) s1 s5 s6 s7 t1 t2 t3 t4 t5 t6 t7 t8 = (w1_Mul.l0.c0 k0 k s1 s5 s6 s7 t1 t2 t3 t4 t5 t6 t7 t8).map f := by
  unfold w1_Mul.l0.c0; (repeat' (first | (apply pm f) | (exact rfl)))
theorem w1_Mul.l0.p {γ δ : Type} (f : γ → δ) (k0 : Int × Int × Int × Int → Option γ) (k : Int → Option γ) (s1 : Int) (s5 : Int) (s6 : Int) (s7 : Int) : w1_Mul.l0.c (fun q => (k0 q).map f) (fun q => (k q).map f) s1 s5 s6 s7 = (w1_Mul.l0.c k0 k s1 s5 s6 s7).map f :=
  let t1 := IntKind.u64.wrap (s6 * 2 ^ min s7.toNat IntKind.u64.bits); let t2 := IntKind.i64.wrap t1; let t3 := w1_Add.g s5 t2; let t4 := IntKind.u64.wrap s1; let t5 := bif (t4.fdiv (2 ^ min s7.toNat IntKind.u64.bits)).tmod 2 == 1 then !decide (s7 < 0) && (t3 && true) else true; let t6 := w1_Add s5 t2; let t7 := bif (t4.fdiv (2 ^ min s7.toNat IntKind.u64.bits)).tmod 2 == 1 then t6 else s5; let t8 := IntKind.i64.wrap (s7 + 1); w1_Mul.l0.p0 f k0 k s1 s5 s6 s7 t1 t2 t3 t4 t5 t6 t7 t8
theorem w1_Mul.p0 {γ δ : Type} (f : γ → δ) (k0 : Int × Int × Int × Int → Option γ) (k : Int → Option γ) (a : Int) (b : Int) (t1 : Int) : w1_Mul.c0 (fun q => (k0 q).map f) (fun q => (k q).map f) a b t1 = (w1_Mul.c0 k0 k a b t1).map f := by
  unfold w1_Mul.c0; (repeat' (first | (apply pm f) | (exact rfl)))
theorem w1_Mul.p {γ δ : Type} (f : γ → δ) (k0 : Int × Int × Int × Int → Option γ) (k : Int → Option γ) (a : Int) (b : Int) : w1_Mul.c (fun q => (k0 q).map f) (fun q => (k q).map f) a b = (w1_Mul.c k0 k a b).map f :=
  let t1 := IntKind.u64.wrap a; w1_Mul.p0 f k0 k a b t1
theorem w1_Mul.S0.ok (N : Nat) : LoopsOK P G (w1_Mul.H0 ).sums w1_Mul.B0 := by
  refine LoopsOK_code fun i hi F hF => ?_
  have hlen : (loopsOf w1_Mul.B0).length = 0 := by kernel_rfl
  rw [hlen] at hi
  omega

theorem w1_Mul.S0.snd (N : Nat) : SoundL P G w1_Mul.B0 (w1_Mul.S0 N) := sumN_sound C.mixed C.names w1_Sub.t (w1_Mul.S0.ok N) N
theorem w1_Mul.l0.r (F0 G0 : LSum) (s1 : Int) (s5 : Int) (s6 : Int) (s7 : Int) : ex P G (tab L_w1_Sub) (w1_Mul.H0 ) 60 w1_Mul.B0 (w1_Mul.e0 (s1, s5, s6, s7)) (roundK (w1_Mul.H0 ) w1_Mul.B0 G0 (w1_Mul.K0 F0)) = w1_Mul.l0.c (fun q => G0.run (w1_Mul.e0 q) (w1_Mul.K0 F0)) (fun q => some (w1_Mul.val q)) s1 s5 s6 s7 := by kernel_rfl
theorem w1_Mul.r (F0 : LSum) (a : Int) (b : Int) : runF P G (tab L_w1_Sub) (w1_Mul.H F0) 60 Tryd.f28 [.int .i64 a, .int .i64 b] = w1_Mul.c (fun q => F0.run (w1_Mul.e0 q) (w1_Mul.K0 F0)) (fun q => some (w1_Mul.val q)) a b := by kernel_rfl
theorem w1_Mul.L0.ok (N : Nat) (F0 : LSum)   : ∀ m q, (sumN P G (tab L_w1_Sub) (w1_Mul.H0 ) 60 w1_Mul.B0 m).run (w1_Mul.e0 q) (w1_Mul.K0 F0) = (w1_Mul.L0 N  m q).map w1_Mul.val
  | 0, q => rfl
  | m + 1, q => by
    have ih := w1_Mul.L0.ok N F0   m
    refine (sumN_run (n := m) rfl).trans ((w1_Mul.l0.r F0 (sumN P G (tab L_w1_Sub) (w1_Mul.H0 ) 60 w1_Mul.B0 m) (q).1 (q).2.1 (q).2.2.1 (q).2.2.2).trans ?_)
    refine Eq.trans ?_ (w1_Mul.l0.p w1_Mul.val (w1_Mul.L0 N m) some (q).1 (q).2.1 (q).2.2.1 (q).2.2.2)
    have e0 : (fun q => (sumN P G (tab L_w1_Sub) (w1_Mul.H0 ) 60 w1_Mul.B0 m).run (w1_Mul.e0 q) (w1_Mul.K0 F0)) = (fun q => ((w1_Mul.L0 N m) q).map w1_Mul.val) := funext ih
    rw [e0]; rfl

theorem w1_Mul.q (N : Nat) (a : Int) (b : Int) : runF P G (tab L_w1_Sub) (w1_Mul.H (w1_Mul.S0 N)) 60 Tryd.f28 [.int .i64 a, .int .i64 b] = (w1_Mul.o N a b).map w1_Mul.val := by
  have hk0 := w1_Mul.L0.ok N (w1_Mul.S0 N)   N
  refine (w1_Mul.r (w1_Mul.S0 N) a b).trans ?_
  refine Eq.trans ?_ (w1_Mul.p w1_Mul.val (w1_Mul.L0 N  N) some a b)
  have e0 : (fun q => (w1_Mul.S0 N).run (w1_Mul.e0 q) (w1_Mul.K0 (w1_Mul.S0 N))) = (fun q => ((w1_Mul.L0 N  N) q).map w1_Mul.val) := funext hk0
  rw [e0]; rfl

theorem w1_Mul.lok (N : Nat) : LoopsOK P G (w1_Mul.H (w1_Mul.S0 N)).sums (fbody Tryd.f28) := by
  refine LoopsOK_code fun i hi F hF => ?_
  have hlen : (loopsOf (fbody Tryd.f28)).length = 1 := by kernel_rfl
  rw [hlen] at hi
  match i, hi with
  | 0, _ => exact soundAt (B' := w1_Mul.B0) (by kernel_rfl) (by kernel_rfl) (w1_Mul.S0.snd N) hF
  | _ + 1, h => omega

def w1_Mul (a : Int) (b : Int) : Int := hide ((w1_Mul.o (67) a b).getD (0))
def w1_Mul.g (a : Int) (b : Int) : Bool := hide (w1_Mul.o (67) a b).isSome
theorem w1_Mul.s (a : Int) (b : Int) (h : w1_Mul.g a b = true) : w1_Mul.o (67) a b = some (w1_Mul a b) := by
  unfold w1_Mul.g at h; unfold w1_Mul; simp only [hide_eq] at h ⊢; revert h; cases w1_Mul.o (67) a b <;> simp
def w1_Mul.F : FV := mkF (cP (cI .i64) (cP (cI .i64) cU)) (fun | (a, (b, ())) => w1_Mul.g a b) (fun | (a, (b, ())) => w1_Mul.val (w1_Mul a b))
def L_w1_Mul : TL := (28, w1_Mul.F) :: L_w1_Sub
theorem w1_Mul.t : TabOK P G (tab L_w1_Mul) :=
  TabOK_mkH C w1_Sub.t Tryd.func28 (by kernel_rfl) (fun | (_, (_, ())) => w1_Mul.H (w1_Mul.S0 (67))) (by rintro ⟨a, ⟨b, ⟨⟩⟩⟩; exact w1_Mul.lok _) 60 (by
    rintro ⟨a, ⟨b, ⟨⟩⟩⟩ h
    exact (w1_Mul.q (67) a b).trans (congrArg (Option.map w1_Mul.val) (w1_Mul.s a b h)))

def w1_Abs.c0 {γ : Type} (n : γ) (k : Int → γ) (a : Int) (t1 : Bool) (t2 : Int) (t3 : Int) (t4 : Int) : γ := bif decide (a < 0)
  then bif t1
   then k (t3)
   else n
  else k (t4)
def w1_Abs.c {γ : Type} (n : γ) (k : Int → γ) (a : Int) : γ := let t1 := w1_Neg.ok a; let t2 := w1_Neg a; let t3 := IntKind.u64.wrap t2; let t4 := IntKind.u64.wrap a; w1_Abs.c0 n k a t1 t2 t3 t4
def w1_Abs.ok (a : Int) : Bool := w1_Abs.c false (fun _ => true) a
def w1_Abs (a : Int) : Int := w1_Abs.c (0) id a
def w1_Abs.F : FV := mkF (cP (cI .i64) cU) (fun | (a, ()) => w1_Abs.ok a) (fun | (a, ()) => .int .u64 (w1_Abs a))
def L_w1_Abs : TL := (36, w1_Abs.F) :: L_w1_Mul
theorem w1_Abs.p0 {γ : Type} (k : Int → γ) (a : Int) (t1 : Bool) (t2 : Int) (t3 : Int) (t4 : Int) : w1_Abs.c0 false (fun _ => true) a t1 t2 t3 t4 = true → w1_Abs.c0 none (fun q => some (k q)) a t1 t2 t3 t4 = some (k (w1_Abs.c0 (0) id a t1 t2 t3 t4)) := by
  unfold w1_Abs.c0; (repeat' (first | (apply pn k) | (exact pn_none _ _) | (exact pn_leaf k _)))
theorem w1_Abs.p {γ : Type} (k : Int → γ) (a : Int) (h : w1_Abs.ok a = true) : w1_Abs.c none (fun q => some (k q)) a = some (k (w1_Abs a)) :=
  let t1 := w1_Neg.ok a; let t2 := w1_Neg a; let t3 := IntKind.u64.wrap t2; let t4 := IntKind.u64.wrap a; w1_Abs.p0 k a t1 t2 t3 t4 h
theorem w1_Abs.r (a : Int) : runF P G (tab L_w1_Mul) { merge := true, glue := true } 60 Tryd.f36 [.int .i64 a] = w1_Abs.c none (fun q => some (.int .u64 (q) : Value)) a := by kernel_rfl
theorem w1_Abs.t : TabOK P G (tab L_w1_Abs) :=
  TabOK_mkL C w1_Mul.t Tryd.func36 (by kernel_rfl) { merge := true, glue := true } (fun c _ => LoopsOK_nil c) 60 (by
    rintro ⟨a, ⟨⟩⟩ h
    exact (w1_Abs.r a).trans (w1_Abs.p (fun q => (.int .u64 (q) : Value)) a h))

def w1_long.val (q : Int × Int) : Value := .tuple #[.int .u64 (q).1, .int .u64 (q).2]
def w1_long.h : List (Nat × List Nat × Nat) := [(3, [0, 1, 6, 7, 8], 0)]
def w1_long.e0 (q : Int × Int × Int × Int × Int) : St := { tmps := [.val (.int .u64 (q).1), .val (.int .u64 (q).2.1), .unk, .unk, .unk, .unk, .val (.int .u64 (q).2.2.1), .val (.int .u64 (q).2.2.2.1), .val (.int .i64 (q).2.2.2.2), .unk, .unk, .unk, .unk, .unk, .unk, .unk, .unk, .unk, .unk, .unk, .unk, .unk, .unk, .unk, .unk, .unk, .unk, .unk, .unk, .unk, .unk, .unk, .unk, .unk, .unk, .unk, .unk, .unk], blks := [], saved := [] }
noncomputable def w1_long.B0 : Code := loopAt [1, 1, 0, 1, 0] (fbody Tryd.f42)
noncomputable def w1_long.H (F0 : LSum) : Heads := { heads := w1_long.h, merge := true, sums := [(3, F0)] }
noncomputable def w1_long.H0  : Heads := { heads := w1_long.h, merge := true, sums := [] }
noncomputable def w1_long.K0 (F0 : LSum) : Xt → St → Option Value := kAt P G (tab L_w1_Abs) (w1_long.H F0) [1, 1, 0, 1, 0] 60 (fbody Tryd.f42) (retK P G Tryd.f42)
def w1_long.l0.c0 {γ : Type} (k0 : Int × Int × Int × Int × Int → Option γ) (k : Int × Int → Option γ) (s0 : Int) (s1 : Int) (s6 : Int) (s7 : Int) (s8 : Int) (t1 : Int) (t2 : Int) (t3 : Int) (t4 : Int) (t5 : Bool) (t6 : Int) (t7 : Int) : Option γ := bif decide (s8 ≥ 0)
  then bif !decide (s8 < 0)
   then bif decide (s7 ≥ 9223372036854775808)
    then bif !decide (s8 < 0) && true && true || !decide (s8 < 0) && true
     then k0 (s0, s1, orI IntKind.u64 s6 t1, t3, t4)
     else none
    else bif !decide (s8 < 0) && true && true || t5
     then k0 (s0, s1, t6, t7, t4)
     else none
   else none
  else k (s6, s7)
def w1_long.l0.c {γ : Type} (k0 : Int × Int × Int × Int × Int → Option γ) (k : Int × Int → Option γ) (s0 : Int) (s1 : Int) (s6 : Int) (s7 : Int) (s8 : Int) : Option γ := let t1 := IntKind.u64.wrap (1 * 2 ^ min s8.toNat IntKind.u64.bits); let t2 := IntKind.u64.wrap (s7 * 2 ^ min (Int.toNat 1) IntKind.u64.bits); let t3 := IntKind.u64.wrap (orI IntKind.u64 t2 ((s0.fdiv (2 ^ min s8.toNat IntKind.u64.bits)).tmod 2) - s1); let t4 := IntKind.i64.wrap (s8 - 1); let t5 := bif decide (orI IntKind.u64 t2 ((s0.fdiv (2 ^ min s8.toNat IntKind.u64.bits)).tmod 2) ≥ s1) then !decide (s8 < 0) && true else true; let t6 := bif decide (orI IntKind.u64 t2 ((s0.fdiv (2 ^ min s8.toNat IntKind.u64.bits)).tmod 2) ≥ s1) then orI IntKind.u64 s6 t1 else s6; let t7 := bif decide (orI IntKind.u64 t2 ((s0.fdiv (2 ^ min s8.toNat IntKind.u64.bits)).tmod 2) ≥ s1) then t3 else orI IntKind.u64 t2 ((s0.fdiv (2 ^ min s8.toNat IntKind.u64.bits)).tmod 2); w1_long.l0.c0 k0 k s0 s1 s6 s7 s8 t1 t2 t3 t4 t5 t6 t7
def w1_long.c {γ : Type} (k0 : Int × Int × Int × Int × Int → Option γ) (k : Int × Int → Option γ) (a : Int) (b : Int) : Option γ := k0 (a, b, 0, 0, 63)
def w1_long.L0 (N : Nat)  : Nat → Int × Int × Int × Int × Int → Option (Int × Int)
  | 0, _ => none
  | m + 1, q => w1_long.l0.c (w1_long.L0 N m) some (q).1 (q).2.1 (q).2.2.1 (q).2.2.2.1 (q).2.2.2.2
def w1_long.o (N : Nat) (a : Int) (b : Int) : Option (Int × Int) := w1_long.c (w1_long.L0 N  N) some a b
noncomputable def w1_long.S0 (N : Nat) : LSum := sumN P G (tab L_w1_Abs) (w1_long.H0 ) 60 w1_long.B0 N
theorem w1_long.l0.p0 {γ δ : Type} (f : γ → δ) (k0 : Int × Int × Int × Int × Int → Option γ) (k : Int × Int → Option γ) (s0 : Int) (s1 : Int) (s6 : Int) (s7 : Int) (s8 : Int) (t1 : Int) (t2 : Int) (t3 : Int) (t4 : Int) (t5 : Bool) (t6 : Int) (t7 : Int) : w1_long.l0.c0 (fun q => (k0 q).map f) (fun q => (k q).map f) s0 s1 s6 s7 s8 t1 t2 t3 t4 t5 t6 t7 = (w1_long.l0.c0 k0 k s0 s1 s6 s7 s8 t1 t2 t3 t4 t5 t6 t7).map f := by
  unfold w1_long.l0.c0; (repeat' (first | (apply pm f) | (exact rfl)))
theorem w1_long.l0.p {γ δ : Type} (f : γ → δ) (k0 : Int × Int × Int × Int × Int → Option γ) (k : Int × Int → Option γ) (s0 : Int) (s1 : Int) (s6 : Int) (s7 : Int) (s8 : Int) : w1_long.l0.c (fun q => (k0 q).map f) (fun q => (k q).map f) s0 s1 s6 s7 s8 = (w1_long.l0.c k0 k s0 s1 s6 s7 s8).map f :=
  let t1 := IntKind.u64.wrap (1 * 2 ^ min s8.toNat IntKind.u64.bits); let t2 := IntKind.u64.wrap (s7 * 2 ^ min (Int.toNat 1) IntKind.u64.bits); let t3 := IntKind.u64.wrap (orI IntKind.u64 t2 ((s0.fdiv (2 ^ min s8.toNat IntKind.u64.bits)).tmod 2) - s1); let t4 := IntKind.i64.wrap (s8 - 1); let t5 := bif decide (orI IntKind.u64 t2 ((s0.fdiv (2 ^ min s8.toNat IntKind.u64.bits)).tmod 2) ≥ s1) then !decide (s8 < 0) && true else true; let t6 := bif decide (orI IntKind.u64 t2 ((s0.fdiv (2 ^ min s8.toNat IntKind.u64.bits)).tmod 2) ≥ s1) then orI IntKind.u64 s6 t1 else s6; let t7 := bif decide (orI IntKind.u64 t2 ((s0.fdiv (2 ^ min s8.toNat IntKind.u64.bits)).tmod 2) ≥ s1) then t3 else orI IntKind.u64 t2 ((s0.fdiv (2 ^ min s8.toNat IntKind.u64.bits)).tmod 2); w1_long.l0.p0 f k0 k s0 s1 s6 s7 s8 t1 t2 t3 t4 t5 t6 t7
theorem w1_long.p {γ δ : Type} (f : γ → δ) (k0 : Int × Int × Int × Int × Int → Option γ) (k : Int × Int → Option γ) (a : Int) (b : Int) : w1_long.c (fun q => (k0 q).map f) (fun q => (k q).map f) a b = (w1_long.c k0 k a b).map f := by
  unfold w1_long.c; (repeat' (first | (apply pm f) | (exact rfl)))
theorem w1_long.S0.ok (N : Nat) : LoopsOK P G (w1_long.H0 ).sums w1_long.B0 := by
  refine LoopsOK_code fun i hi F hF => ?_
  have hlen : (loopsOf w1_long.B0).length = 0 := by kernel_rfl
  rw [hlen] at hi
  omega

theorem w1_long.S0.snd (N : Nat) : SoundL P G w1_long.B0 (w1_long.S0 N) := sumN_sound C.mixed C.names w1_Abs.t (w1_long.S0.ok N) N
theorem w1_long.l0.r (F0 G0 : LSum) (s0 : Int) (s1 : Int) (s6 : Int) (s7 : Int) (s8 : Int) : ex P G (tab L_w1_Abs) (w1_long.H0 ) 60 w1_long.B0 (w1_long.e0 (s0, s1, s6, s7, s8)) (roundK (w1_long.H0 ) w1_long.B0 G0 (w1_long.K0 F0)) = w1_long.l0.c (fun q => G0.run (w1_long.e0 q) (w1_long.K0 F0)) (fun q => some (w1_long.val q)) s0 s1 s6 s7 s8 := by kernel_rfl
theorem w1_long.r (F0 : LSum) (a : Int) (b : Int) : runF P G (tab L_w1_Abs) (w1_long.H F0) 60 Tryd.f42 [.int .u64 a, .int .u64 b] = w1_long.c (fun q => F0.run (w1_long.e0 q) (w1_long.K0 F0)) (fun q => some (w1_long.val q)) a b := by kernel_rfl
theorem w1_long.L0.ok (N : Nat) (F0 : LSum)   : ∀ m q, (sumN P G (tab L_w1_Abs) (w1_long.H0 ) 60 w1_long.B0 m).run (w1_long.e0 q) (w1_long.K0 F0) = (w1_long.L0 N  m q).map w1_long.val
  | 0, q => rfl
  | m + 1, q => by
    have ih := w1_long.L0.ok N F0   m
    refine (sumN_run (n := m) rfl).trans ((w1_long.l0.r F0 (sumN P G (tab L_w1_Abs) (w1_long.H0 ) 60 w1_long.B0 m) (q).1 (q).2.1 (q).2.2.1 (q).2.2.2.1 (q).2.2.2.2).trans ?_)
    refine Eq.trans ?_ (w1_long.l0.p w1_long.val (w1_long.L0 N m) some (q).1 (q).2.1 (q).2.2.1 (q).2.2.2.1 (q).2.2.2.2)
    have e0 : (fun q => (sumN P G (tab L_w1_Abs) (w1_long.H0 ) 60 w1_long.B0 m).run (w1_long.e0 q) (w1_long.K0 F0)) = (fun q => ((w1_long.L0 N m) q).map w1_long.val) := funext ih
    rw [e0]; rfl

theorem w1_long.q (N : Nat) (a : Int) (b : Int) : runF P G (tab L_w1_Abs) (w1_long.H (w1_long.S0 N)) 60 Tryd.f42 [.int .u64 a, .int .u64 b] = (w1_long.o N a b).map w1_long.val := by
  have hk0 := w1_long.L0.ok N (w1_long.S0 N)   N
  refine (w1_long.r (w1_long.S0 N) a b).trans ?_
  refine Eq.trans ?_ (w1_long.p w1_long.val (w1_long.L0 N  N) some a b)
  have e0 : (fun q => (w1_long.S0 N).run (w1_long.e0 q) (w1_long.K0 (w1_long.S0 N))) = (fun q => ((w1_long.L0 N  N) q).map w1_long.val) := funext hk0
  rw [e0]; rfl

theorem w1_long.lok (N : Nat) : LoopsOK P G (w1_long.H (w1_long.S0 N)).sums (fbody Tryd.f42) := by
  refine LoopsOK_code fun i hi F hF => ?_
  have hlen : (loopsOf (fbody Tryd.f42)).length = 1 := by kernel_rfl
  rw [hlen] at hi
  match i, hi with
  | 0, _ => exact soundAt (B' := w1_long.B0) (by kernel_rfl) (by kernel_rfl) (w1_long.S0.snd N) hF
  | _ + 1, h => omega

def w1_long (a : Int) (b : Int) : Int × Int := hide ((w1_long.o (67) a b).getD (0, 0))
def w1_long.g (a : Int) (b : Int) : Bool := hide (w1_long.o (67) a b).isSome
theorem w1_long.s (a : Int) (b : Int) (h : w1_long.g a b = true) : w1_long.o (67) a b = some (w1_long a b) := by
  unfold w1_long.g at h; unfold w1_long; simp only [hide_eq] at h ⊢; revert h; cases w1_long.o (67) a b <;> simp
def w1_long.F : FV := mkF (cP (cI .u64) (cP (cI .u64) cU)) (fun | (a, (b, ())) => w1_long.g a b) (fun | (a, (b, ())) => w1_long.val (w1_long a b))
def L_w1_long : TL := (42, w1_long.F) :: L_w1_Abs
theorem w1_long.t : TabOK P G (tab L_w1_long) :=
  TabOK_mkH C w1_Abs.t Tryd.func42 (by kernel_rfl) (fun | (_, (_, ())) => w1_long.H (w1_long.S0 (67))) (by rintro ⟨a, ⟨b, ⟨⟩⟩⟩; exact w1_long.lok _) 60 (by
    rintro ⟨a, ⟨b, ⟨⟩⟩⟩ h
    exact (w1_long.q (67) a b).trans (congrArg (Option.map w1_long.val) (w1_long.s a b h)))

def w1_Div.c0 {γ : Type} (n : γ) (k : Int × Bool → γ) (a : Int) (b : Int) (t1 : Bool) (t2 : Bool) (t3 : Int) (t4 : Int) (t5 : Bool) (t6 : Int × Int) (t7 : Int) (t8 : Bool) (t9 : Int) : γ := bif b == 0
  then k (0, false)
  else bif t1
   then bif t2
    then bif t5
     then bif !decide (a < 0) == decide (b < 0)
      then bif t8
       then k (t9, true)
       else n
      else k (t7, true)
     else n
    else n
   else n
def w1_Div.c {γ : Type} (n : γ) (k : Int × Bool → γ) (a : Int) (b : Int) : γ := let t1 := w1_Abs.ok a; let t2 := w1_Abs.ok b; let t3 := w1_Abs a; let t4 := w1_Abs b; let t5 := w1_long.g t3 t4; let t6 := w1_long t3 t4; let t7 := IntKind.i64.wrap t6.fst; let t8 := w1_Neg.ok t7; let t9 := w1_Neg t7; w1_Div.c0 n k a b t1 t2 t3 t4 t5 t6 t7 t8 t9
def w1_Div.ok (a : Int) (b : Int) : Bool := w1_Div.c false (fun _ => true) a b
def w1_Div (a : Int) (b : Int) : Int × Bool := w1_Div.c (0, false) id a b
def w1_Div.F : FV := mkF (cP (cI .i64) (cP (cI .i64) cU)) (fun | (a, (b, ())) => w1_Div.ok a b) (fun | (a, (b, ())) => .tuple #[.int .i64 (w1_Div a b).1, .bool (w1_Div a b).2])
def L_w1_Div : TL := (23, w1_Div.F) :: L_w1_long
theorem w1_Div.p0 {γ : Type} (k : Int × Bool → γ) (a : Int) (b : Int) (t1 : Bool) (t2 : Bool) (t3 : Int) (t4 : Int) (t5 : Bool) (t6 : Int × Int) (t7 : Int) (t8 : Bool) (t9 : Int) : w1_Div.c0 false (fun _ => true) a b t1 t2 t3 t4 t5 t6 t7 t8 t9 = true → w1_Div.c0 none (fun q => some (k q)) a b t1 t2 t3 t4 t5 t6 t7 t8 t9 = some (k (w1_Div.c0 (0, false) id a b t1 t2 t3 t4 t5 t6 t7 t8 t9)) := by
  unfold w1_Div.c0; (repeat' (first | (apply pn k) | (exact pn_none _ _) | (exact pn_leaf k _)))
theorem w1_Div.p {γ : Type} (k : Int × Bool → γ) (a : Int) (b : Int) (h : w1_Div.ok a b = true) : w1_Div.c none (fun q => some (k q)) a b = some (k (w1_Div a b)) :=
  let t1 := w1_Abs.ok a; let t2 := w1_Abs.ok b; let t3 := w1_Abs a; let t4 := w1_Abs b; let t5 := w1_long.g t3 t4; let t6 := w1_long t3 t4; let t7 := IntKind.i64.wrap t6.fst; let t8 := w1_Neg.ok t7; let t9 := w1_Neg t7; w1_Div.p0 k a b t1 t2 t3 t4 t5 t6 t7 t8 t9 h
theorem w1_Div.r (a : Int) (b : Int) : runF P G (tab L_w1_long) { merge := true, glue := true } 60 Tryd.f23 [.int .i64 a, .int .i64 b] = w1_Div.c none (fun q => some (.tuple #[.int .i64 (q).1, .bool (q).2] : Value)) a b := by kernel_rfl
theorem w1_Div.t : TabOK P G (tab L_w1_Div) :=
  TabOK_mkL C w1_long.t Tryd.func23 (by kernel_rfl) { merge := true, glue := true } (fun c _ => LoopsOK_nil c) 60 (by
    rintro ⟨a, ⟨b, ⟨⟩⟩⟩ h
    exact (w1_Div.r a b).trans (w1_Div.p (fun q => (.tuple #[.int .i64 (q).1, .bool (q).2] : Value)) a b h))

def w1_Rem.c0 {γ : Type} (n : γ) (k : Int × Bool → γ) (a : Int) (b : Int) (t1 : Bool) (t2 : Bool) (t3 : Int) (t4 : Int) (t5 : Bool) (t6 : Int × Int) (t7 : Int) (t8 : Bool) (t9 : Int) : γ := bif b == 0
  then k (0, false)
  else bif t1
   then bif t2
    then bif t5
     then bif decide (a < 0)
      then bif t8
       then k (t9, true)
       else n
      else k (t7, true)
     else n
    else n
   else n
def w1_Rem.c {γ : Type} (n : γ) (k : Int × Bool → γ) (a : Int) (b : Int) : γ := let t1 := w1_Abs.ok a; let t2 := w1_Abs.ok b; let t3 := w1_Abs a; let t4 := w1_Abs b; let t5 := w1_long.g t3 t4; let t6 := w1_long t3 t4; let t7 := IntKind.i64.wrap t6.snd; let t8 := w1_Neg.ok t7; let t9 := w1_Neg t7; w1_Rem.c0 n k a b t1 t2 t3 t4 t5 t6 t7 t8 t9
def w1_Rem.ok (a : Int) (b : Int) : Bool := w1_Rem.c false (fun _ => true) a b
def w1_Rem (a : Int) (b : Int) : Int × Bool := w1_Rem.c (0, false) id a b
def w1_Rem.F : FV := mkF (cP (cI .i64) (cP (cI .i64) cU)) (fun | (a, (b, ())) => w1_Rem.ok a b) (fun | (a, (b, ())) => .tuple #[.int .i64 (w1_Rem a b).1, .bool (w1_Rem a b).2])
def L_w1_Rem : TL := (24, w1_Rem.F) :: L_w1_Div
theorem w1_Rem.p0 {γ : Type} (k : Int × Bool → γ) (a : Int) (b : Int) (t1 : Bool) (t2 : Bool) (t3 : Int) (t4 : Int) (t5 : Bool) (t6 : Int × Int) (t7 : Int) (t8 : Bool) (t9 : Int) : w1_Rem.c0 false (fun _ => true) a b t1 t2 t3 t4 t5 t6 t7 t8 t9 = true → w1_Rem.c0 none (fun q => some (k q)) a b t1 t2 t3 t4 t5 t6 t7 t8 t9 = some (k (w1_Rem.c0 (0, false) id a b t1 t2 t3 t4 t5 t6 t7 t8 t9)) := by
  unfold w1_Rem.c0; (repeat' (first | (apply pn k) | (exact pn_none _ _) | (exact pn_leaf k _)))
theorem w1_Rem.p {γ : Type} (k : Int × Bool → γ) (a : Int) (b : Int) (h : w1_Rem.ok a b = true) : w1_Rem.c none (fun q => some (k q)) a b = some (k (w1_Rem a b)) :=
  let t1 := w1_Abs.ok a; let t2 := w1_Abs.ok b; let t3 := w1_Abs a; let t4 := w1_Abs b; let t5 := w1_long.g t3 t4; let t6 := w1_long t3 t4; let t7 := IntKind.i64.wrap t6.snd; let t8 := w1_Neg.ok t7; let t9 := w1_Neg t7; w1_Rem.p0 k a b t1 t2 t3 t4 t5 t6 t7 t8 t9 h
theorem w1_Rem.r (a : Int) (b : Int) : runF P G (tab L_w1_Div) { merge := true, glue := true } 60 Tryd.f24 [.int .i64 a, .int .i64 b] = w1_Rem.c none (fun q => some (.tuple #[.int .i64 (q).1, .bool (q).2] : Value)) a b := by kernel_rfl
theorem w1_Rem.t : TabOK P G (tab L_w1_Rem) :=
  TabOK_mkL C w1_Div.t Tryd.func24 (by kernel_rfl) { merge := true, glue := true } (fun c _ => LoopsOK_nil c) 60 (by
    rintro ⟨a, ⟨b, ⟨⟩⟩⟩ h
    exact (w1_Rem.r a b).trans (w1_Rem.p (fun q => (.tuple #[.int .i64 (q).1, .bool (q).2] : Value)) a b h))

def w1_Full.c0 {γ : Type} (k : Int × Int → γ) (a : Int) (b : Int) (t1 : Int) (t2 : Int) (t3 : Int) (t4 : Int) (t5 : Int) (t6 : Int) (t7 : Int) (t8 : Int) (t9 : Int) (t10 : Int) (t11 : Int) (t12 : Int) (t13 : Int) (t14 : Int) (t15 : Int) : γ := k (t13, t15)
def w1_Full.c {γ : Type} (k : Int × Int → γ) (a : Int) (b : Int) : γ := let t1 := IntKind.u64.wrap (a.tdiv 4294967296); let t2 := IntKind.u64.wrap (b.tdiv 4294967296); let t3 := IntKind.u64.wrap (t1 * t2); let t4 := IntKind.u64.wrap (t1 * b.tmod 4294967296); let t5 := IntKind.u64.wrap (a.tmod 4294967296 * b.tmod 4294967296); let t6 := IntKind.u64.wrap (t5.tdiv 4294967296); let t7 := IntKind.u64.wrap (t4 + t6); let t8 := IntKind.u64.wrap (t7.tdiv 4294967296); let t9 := IntKind.u64.wrap (t3 + t8); let t10 := IntKind.u64.wrap (a.tmod 4294967296 * t2); let t11 := IntKind.u64.wrap (t10 + t7.tmod 4294967296); let t12 := IntKind.u64.wrap (t11.tdiv 4294967296); let t13 := IntKind.u64.wrap (t9 + t12); let t14 := IntKind.u64.wrap (t11.tmod 4294967296 * 4294967296); let t15 := IntKind.u64.wrap (t14 + t5.tmod 4294967296); w1_Full.c0 k a b t1 t2 t3 t4 t5 t6 t7 t8 t9 t10 t11 t12 t13 t14 t15
def w1_Full (a : Int) (b : Int) : Int × Int := w1_Full.c id a b
def w1_Full.F : FV := mkF (cP (cI .u64) (cP (cI .u64) cU)) (fun _ => true) (fun | (a, (b, ())) => .tuple #[.int .u64 (w1_Full a b).1, .int .u64 (w1_Full a b).2])
def L_w1_Full : TL := (43, w1_Full.F) :: L_w1_Rem
theorem w1_Full.p0 {γ : Type} (k : Int × Int → γ) (a : Int) (b : Int) (t1 : Int) (t2 : Int) (t3 : Int) (t4 : Int) (t5 : Int) (t6 : Int) (t7 : Int) (t8 : Int) (t9 : Int) (t10 : Int) (t11 : Int) (t12 : Int) (t13 : Int) (t14 : Int) (t15 : Int) : w1_Full.c0 k a b t1 t2 t3 t4 t5 t6 t7 t8 t9 t10 t11 t12 t13 t14 t15 = k (w1_Full.c0 id a b t1 t2 t3 t4 t5 t6 t7 t8 t9 t10 t11 t12 t13 t14 t15) := by
  unfold w1_Full.c0; (repeat' (first | (apply pc k) | (exact rfl)))
theorem w1_Full.p {γ : Type} (k : Int × Int → γ) (a : Int) (b : Int) : w1_Full.c k a b = k (w1_Full a b) :=
  let t1 := IntKind.u64.wrap (a.tdiv 4294967296); let t2 := IntKind.u64.wrap (b.tdiv 4294967296); let t3 := IntKind.u64.wrap (t1 * t2); let t4 := IntKind.u64.wrap (t1 * b.tmod 4294967296); let t5 := IntKind.u64.wrap (a.tmod 4294967296 * b.tmod 4294967296); let t6 := IntKind.u64.wrap (t5.tdiv 4294967296); let t7 := IntKind.u64.wrap (t4 + t6); let t8 := IntKind.u64.wrap (t7.tdiv 4294967296); let t9 := IntKind.u64.wrap (t3 + t8); let t10 := IntKind.u64.wrap (a.tmod 4294967296 * t2); let t11 := IntKind.u64.wrap (t10 + t7.tmod 4294967296); let t12 := IntKind.u64.wrap (t11.tdiv 4294967296); let t13 := IntKind.u64.wrap (t9 + t12); let t14 := IntKind.u64.wrap (t11.tmod 4294967296 * 4294967296); let t15 := IntKind.u64.wrap (t14 + t5.tmod 4294967296); w1_Full.p0 k a b t1 t2 t3 t4 t5 t6 t7 t8 t9 t10 t11 t12 t13 t14 t15
theorem w1_Full.r (a : Int) (b : Int) : runF P G (tab L_w1_Rem) { merge := true, glue := true } 60 Tryd.f43 [.int .u64 a, .int .u64 b] = w1_Full.c (fun q => some (.tuple #[.int .u64 (q).1, .int .u64 (q).2] : Value)) a b := by kernel_rfl
theorem w1_Full.t : TabOK P G (tab L_w1_Full) :=
  TabOK_mkL C w1_Rem.t Tryd.func43 (by kernel_rfl) { merge := true, glue := true } (fun c _ => LoopsOK_nil c) 60 (by
    rintro ⟨a, ⟨b, ⟨⟩⟩⟩ h
    exact (w1_Full.r a b).trans (w1_Full.p (fun q => some (.tuple #[.int .u64 (q).1, .int .u64 (q).2] : Value)) a b))

def w1_Wide.c0 {γ : Type} (n : γ) (k : Int × Int → γ) (a : Int) (b : Int) (t1 : Bool) (t2 : Bool) (t3 : Int) (t4 : Int) (t5 : Int) (t6 : Int × Int) (t7 : Int) (t8 : Int) (t9 : Int) (t10 : Int) (t11 : Int) (t12 : Int) : γ := bif t1
  then bif t2
   then k (t11, t12)
   else n
  else n
def w1_Wide.c {γ : Type} (n : γ) (k : Int × Int → γ) (a : Int) (b : Int) : γ := let t1 := w1_Abs.ok a; let t2 := w1_Abs.ok b; let t3 := if IntKind.u64.signed = true then -1 else IntKind.u64.max; let t4 := w1_Abs a; let t5 := w1_Abs b; let t6 := w1_Full t4 t5; let t7 := IntKind.u64.wrap (xorI IntKind.u64 t3 t6.snd + 1); let t8 := IntKind.u64.wrap (xorI IntKind.u64 t3 t6.fst + 1); let t9 := bif t7 == 0 then t8 else xorI IntKind.u64 t3 t6.fst; let t10 := bif !decide (a < 0) == decide (b < 0) then t9 else t6.fst; let t11 := IntKind.i64.wrap t10; let t12 := bif !decide (a < 0) == decide (b < 0) then t7 else t6.snd; w1_Wide.c0 n k a b t1 t2 t3 t4 t5 t6 t7 t8 t9 t10 t11 t12
def w1_Wide.ok (a : Int) (b : Int) : Bool := w1_Wide.c false (fun _ => true) a b
def w1_Wide (a : Int) (b : Int) : Int × Int := w1_Wide.c (0, 0) id a b
def w1_Wide.F : FV := mkF (cP (cI .i64) (cP (cI .i64) cU)) (fun | (a, (b, ())) => w1_Wide.ok a b) (fun | (a, (b, ())) => .tuple #[.int .i64 (w1_Wide a b).1, .int .u64 (w1_Wide a b).2])
def L_w1_Wide : TL := (25, w1_Wide.F) :: L_w1_Full
theorem w1_Wide.p0 {γ : Type} (k : Int × Int → γ) (a : Int) (b : Int) (t1 : Bool) (t2 : Bool) (t3 : Int) (t4 : Int) (t5 : Int) (t6 : Int × Int) (t7 : Int) (t8 : Int) (t9 : Int) (t10 : Int) (t11 : Int) (t12 : Int) : w1_Wide.c0 false (fun _ => true) a b t1 t2 t3 t4 t5 t6 t7 t8 t9 t10 t11 t12 = true → w1_Wide.c0 none (fun q => some (k q)) a b t1 t2 t3 t4 t5 t6 t7 t8 t9 t10 t11 t12 = some (k (w1_Wide.c0 (0, 0) id a b t1 t2 t3 t4 t5 t6 t7 t8 t9 t10 t11 t12)) := by
  unfold w1_Wide.c0; (repeat' (first | (apply pn k) | (exact pn_none _ _) | (exact pn_leaf k _)))
theorem w1_Wide.p {γ : Type} (k : Int × Int → γ) (a : Int) (b : Int) (h : w1_Wide.ok a b = true) : w1_Wide.c none (fun q => some (k q)) a b = some (k (w1_Wide a b)) :=
  let t1 := w1_Abs.ok a; let t2 := w1_Abs.ok b; let t3 := if IntKind.u64.signed = true then -1 else IntKind.u64.max; let t4 := w1_Abs a; let t5 := w1_Abs b; let t6 := w1_Full t4 t5; let t7 := IntKind.u64.wrap (xorI IntKind.u64 t3 t6.snd + 1); let t8 := IntKind.u64.wrap (xorI IntKind.u64 t3 t6.fst + 1); let t9 := bif t7 == 0 then t8 else xorI IntKind.u64 t3 t6.fst; let t10 := bif !decide (a < 0) == decide (b < 0) then t9 else t6.fst; let t11 := IntKind.i64.wrap t10; let t12 := bif !decide (a < 0) == decide (b < 0) then t7 else t6.snd; w1_Wide.p0 k a b t1 t2 t3 t4 t5 t6 t7 t8 t9 t10 t11 t12 h
theorem w1_Wide.r (a : Int) (b : Int) : runF P G (tab L_w1_Full) { merge := true, glue := true } 60 Tryd.f25 [.int .i64 a, .int .i64 b] = w1_Wide.c none (fun q => some (.tuple #[.int .i64 (q).1, .int .u64 (q).2] : Value)) a b := by kernel_rfl
theorem w1_Wide.t : TabOK P G (tab L_w1_Wide) :=
  TabOK_mkL C w1_Full.t Tryd.func25 (by kernel_rfl) { merge := true, glue := true } (fun c _ => LoopsOK_nil c) 60 (by
    rintro ⟨a, ⟨b, ⟨⟩⟩⟩ h
    exact (w1_Wide.r a b).trans (w1_Wide.p (fun q => (.tuple #[.int .i64 (q).1, .int .u64 (q).2] : Value)) a b h))

def w1_Gcd.val (q : Int) : Value := .int .u64 (q)
def w1_Gcd.h : List (Nat × List Nat × Nat) := [(1, [0, 1], 0)]
def w1_Gcd.e0 (q : Int × Int) : St := { tmps := [.val (.int .u64 (q).1), .val (.int .u64 (q).2), .unk, .unk, .unk, .unk, .unk, .unk, .unk, .unk, .unk, .unk, .unk, .unk, .unk, .unk, .unk, .unk], blks := [], saved := [] }
noncomputable def w1_Gcd.B0 : Code := loopAt [1, 0, 0] (fbody Tryd.f30)
noncomputable def w1_Gcd.H (F0 : LSum) : Heads := { heads := w1_Gcd.h, merge := true, sums := [(1, F0)] }
noncomputable def w1_Gcd.H0  : Heads := { heads := w1_Gcd.h, merge := true, sums := [] }
noncomputable def w1_Gcd.K0 (F0 : LSum) : Xt → St → Option Value := kAt P G (tab L_w1_Wide) (w1_Gcd.H F0) [1, 0, 0] 60 (fbody Tryd.f30) (retK P G Tryd.f30)
def w1_Gcd.l0.c0 {γ : Type} (k0 : Int × Int → Option γ) (k : Int → Option γ) (s0 : Int) (s1 : Int) (t1 : Bool) (t2 : Int × Int) : Option γ := bif s1 != 0
  then bif t1
   then k0 (s1, t2.snd)
   else none
  else k (s0)
def w1_Gcd.l0.c {γ : Type} (k0 : Int × Int → Option γ) (k : Int → Option γ) (s0 : Int) (s1 : Int) : Option γ := let t1 := w1_long.g s0 s1; let t2 := w1_long s0 s1; w1_Gcd.l0.c0 k0 k s0 s1 t1 t2
def w1_Gcd.c {γ : Type} (k0 : Int × Int → Option γ) (k : Int → Option γ) (a : Int) (b : Int) : Option γ := k0 (a, b)
def w1_Gcd.L0 (N : Nat)  : Nat → Int × Int → Option (Int)
  | 0, _ => none
  | m + 1, q => w1_Gcd.l0.c (w1_Gcd.L0 N m) some (q).1 (q).2
def w1_Gcd.o (N : Nat) (a : Int) (b : Int) : Option (Int) := w1_Gcd.c (w1_Gcd.L0 N  N) some a b
noncomputable def w1_Gcd.S0 (N : Nat) : LSum := sumN P G (tab L_w1_Wide) (w1_Gcd.H0 ) 60 w1_Gcd.B0 N
theorem w1_Gcd.l0.p0 {γ δ : Type} (f : γ → δ) (k0 : Int × Int → Option γ) (k : Int → Option γ) (s0 : Int) (s1 : Int) (t1 : Bool) (t2 : Int × Int) : w1_Gcd.l0.c0 (fun q => (k0 q).map f) (fun q => (k q).map f) s0 s1 t1 t2 = (w1_Gcd.l0.c0 k0 k s0 s1 t1 t2).map f := by
  unfold w1_Gcd.l0.c0; (repeat' (first | (apply pm f) | (exact rfl)))
theorem w1_Gcd.l0.p {γ δ : Type} (f : γ → δ) (k0 : Int × Int → Option γ) (k : Int → Option γ) (s0 : Int) (s1 : Int) : w1_Gcd.l0.c (fun q => (k0 q).map f) (fun q => (k q).map f) s0 s1 = (w1_Gcd.l0.c k0 k s0 s1).map f :=
  let t1 := w1_long.g s0 s1; let t2 := w1_long s0 s1; w1_Gcd.l0.p0 f k0 k s0 s1 t1 t2
theorem w1_Gcd.p {γ δ : Type} (f : γ → δ) (k0 : Int × Int → Option γ) (k : Int → Option γ) (a : Int) (b : Int) : w1_Gcd.c (fun q => (k0 q).map f) (fun q => (k q).map f) a b = (w1_Gcd.c k0 k a b).map f := by
  unfold w1_Gcd.c; (repeat' (first | (apply pm f) | (exact rfl)))
theorem w1_Gcd.S0.ok (N : Nat) : LoopsOK P G (w1_Gcd.H0 ).sums w1_Gcd.B0 := by
  refine LoopsOK_code fun i hi F hF => ?_
  have hlen : (loopsOf w1_Gcd.B0).length = 0 := by kernel_rfl
  rw [hlen] at hi
  omega

theorem w1_Gcd.S0.snd (N : Nat) : SoundL P G w1_Gcd.B0 (w1_Gcd.S0 N) := sumN_sound C.mixed C.names w1_Wide.t (w1_Gcd.S0.ok N) N
theorem w1_Gcd.l0.r (F0 G0 : LSum) (s0 : Int) (s1 : Int) : ex P G (tab L_w1_Wide) (w1_Gcd.H0 ) 60 w1_Gcd.B0 (w1_Gcd.e0 (s0, s1)) (roundK (w1_Gcd.H0 ) w1_Gcd.B0 G0 (w1_Gcd.K0 F0)) = w1_Gcd.l0.c (fun q => G0.run (w1_Gcd.e0 q) (w1_Gcd.K0 F0)) (fun q => some (w1_Gcd.val q)) s0 s1 := by kernel_rfl
theorem w1_Gcd.r (F0 : LSum) (a : Int) (b : Int) : runF P G (tab L_w1_Wide) (w1_Gcd.H F0) 60 Tryd.f30 [.int .u64 a, .int .u64 b] = w1_Gcd.c (fun q => F0.run (w1_Gcd.e0 q) (w1_Gcd.K0 F0)) (fun q => some (w1_Gcd.val q)) a b := by kernel_rfl
theorem w1_Gcd.L0.ok (N : Nat) (F0 : LSum)   : ∀ m q, (sumN P G (tab L_w1_Wide) (w1_Gcd.H0 ) 60 w1_Gcd.B0 m).run (w1_Gcd.e0 q) (w1_Gcd.K0 F0) = (w1_Gcd.L0 N  m q).map w1_Gcd.val
  | 0, q => rfl
  | m + 1, q => by
    have ih := w1_Gcd.L0.ok N F0   m
    refine (sumN_run (n := m) rfl).trans ((w1_Gcd.l0.r F0 (sumN P G (tab L_w1_Wide) (w1_Gcd.H0 ) 60 w1_Gcd.B0 m) (q).1 (q).2).trans ?_)
    refine Eq.trans ?_ (w1_Gcd.l0.p w1_Gcd.val (w1_Gcd.L0 N m) some (q).1 (q).2)
    have e0 : (fun q => (sumN P G (tab L_w1_Wide) (w1_Gcd.H0 ) 60 w1_Gcd.B0 m).run (w1_Gcd.e0 q) (w1_Gcd.K0 F0)) = (fun q => ((w1_Gcd.L0 N m) q).map w1_Gcd.val) := funext ih
    rw [e0]; rfl

theorem w1_Gcd.q (N : Nat) (a : Int) (b : Int) : runF P G (tab L_w1_Wide) (w1_Gcd.H (w1_Gcd.S0 N)) 60 Tryd.f30 [.int .u64 a, .int .u64 b] = (w1_Gcd.o N a b).map w1_Gcd.val := by
  have hk0 := w1_Gcd.L0.ok N (w1_Gcd.S0 N)   N
  refine (w1_Gcd.r (w1_Gcd.S0 N) a b).trans ?_
  refine Eq.trans ?_ (w1_Gcd.p w1_Gcd.val (w1_Gcd.L0 N  N) some a b)
  have e0 : (fun q => (w1_Gcd.S0 N).run (w1_Gcd.e0 q) (w1_Gcd.K0 (w1_Gcd.S0 N))) = (fun q => ((w1_Gcd.L0 N  N) q).map w1_Gcd.val) := funext hk0
  rw [e0]; rfl

theorem w1_Gcd.lok (N : Nat) : LoopsOK P G (w1_Gcd.H (w1_Gcd.S0 N)).sums (fbody Tryd.f30) := by
  refine LoopsOK_code fun i hi F hF => ?_
  have hlen : (loopsOf (fbody Tryd.f30)).length = 1 := by kernel_rfl
  rw [hlen] at hi
  match i, hi with
  | 0, _ => exact soundAt (B' := w1_Gcd.B0) (by kernel_rfl) (by kernel_rfl) (w1_Gcd.S0.snd N) hF
  | _ + 1, h => omega

def w1_Gcd (a : Int) (b : Int) : Int := hide ((w1_Gcd.o (b.toNat + 2) a b).getD (0))
def w1_Gcd.g (a : Int) (b : Int) : Bool := hide (w1_Gcd.o (b.toNat + 2) a b).isSome
theorem w1_Gcd.s (a : Int) (b : Int) (h : w1_Gcd.g a b = true) : w1_Gcd.o (b.toNat + 2) a b = some (w1_Gcd a b) := by
  unfold w1_Gcd.g at h; unfold w1_Gcd; simp only [hide_eq] at h ⊢; revert h; cases w1_Gcd.o (b.toNat + 2) a b <;> simp
def w1_Gcd.F : FV := mkF (cP (cI .u64) (cP (cI .u64) cU)) (fun | (a, (b, ())) => w1_Gcd.g a b) (fun | (a, (b, ())) => w1_Gcd.val (w1_Gcd a b))
def L_w1_Gcd : TL := (30, w1_Gcd.F) :: L_w1_Wide
theorem w1_Gcd.t : TabOK P G (tab L_w1_Gcd) :=
  TabOK_mkH C w1_Wide.t Tryd.func30 (by kernel_rfl) (fun | (_, (b, ())) => w1_Gcd.H (w1_Gcd.S0 (b.toNat + 2))) (by rintro ⟨a, ⟨b, ⟨⟩⟩⟩; exact w1_Gcd.lok _) 60 (by
    rintro ⟨a, ⟨b, ⟨⟩⟩⟩ h
    exact (w1_Gcd.q (b.toNat + 2) a b).trans (congrArg (Option.map w1_Gcd.val) (w1_Gcd.s a b h)))

def w1_Mod.c0 {γ : Type} (n : γ) (k : Int → γ) (a : Int) (b : Int) (t1 : Int) (t2 : Bool) (t3 : Int) (t4 : Bool) (t5 : Int × Int) (t6 : Bool) (t7 : Int) : γ := bif b == 0
  then k (t1)
  else bif t2
   then bif t4
    then bif t6
     then k (t7)
     else k (t5.snd)
    else n
   else n
def w1_Mod.c {γ : Type} (n : γ) (k : Int → γ) (a : Int) (b : Int) : γ := let t1 := IntKind.u64.wrap a; let t2 := w1_Abs.ok a; let t3 := w1_Abs a; let t4 := w1_long.g t3 b; let t5 := w1_long t3 b; let t6 := bif decide (a < 0) then decide (t5.snd > 0) else false; let t7 := IntKind.u64.wrap (b - t5.snd); w1_Mod.c0 n k a b t1 t2 t3 t4 t5 t6 t7
def w1_Mod.ok (a : Int) (b : Int) : Bool := w1_Mod.c false (fun _ => true) a b
def w1_Mod (a : Int) (b : Int) : Int := w1_Mod.c (0) id a b
def w1_Mod.F : FV := mkF (cP (cI .i64) (cP (cI .u64) cU)) (fun | (a, (b, ())) => w1_Mod.ok a b) (fun | (a, (b, ())) => .int .u64 (w1_Mod a b))
def L_w1_Mod : TL := (32, w1_Mod.F) :: L_w1_Gcd
theorem w1_Mod.p0 {γ : Type} (k : Int → γ) (a : Int) (b : Int) (t1 : Int) (t2 : Bool) (t3 : Int) (t4 : Bool) (t5 : Int × Int) (t6 : Bool) (t7 : Int) : w1_Mod.c0 false (fun _ => true) a b t1 t2 t3 t4 t5 t6 t7 = true → w1_Mod.c0 none (fun q => some (k q)) a b t1 t2 t3 t4 t5 t6 t7 = some (k (w1_Mod.c0 (0) id a b t1 t2 t3 t4 t5 t6 t7)) := by
  unfold w1_Mod.c0; (repeat' (first | (apply pn k) | (exact pn_none _ _) | (exact pn_leaf k _)))
theorem w1_Mod.p {γ : Type} (k : Int → γ) (a : Int) (b : Int) (h : w1_Mod.ok a b = true) : w1_Mod.c none (fun q => some (k q)) a b = some (k (w1_Mod a b)) :=
  let t1 := IntKind.u64.wrap a; let t2 := w1_Abs.ok a; let t3 := w1_Abs a; let t4 := w1_long.g t3 b; let t5 := w1_long t3 b; let t6 := bif decide (a < 0) then decide (t5.snd > 0) else false; let t7 := IntKind.u64.wrap (b - t5.snd); w1_Mod.p0 k a b t1 t2 t3 t4 t5 t6 t7 h
theorem w1_Mod.r (a : Int) (b : Int) : runF P G (tab L_w1_Gcd) { merge := true, glue := true } 60 Tryd.f32 [.int .i64 a, .int .u64 b] = w1_Mod.c none (fun q => some (.int .u64 (q) : Value)) a b := by kernel_rfl
theorem w1_Mod.t : TabOK P G (tab L_w1_Mod) :=
  TabOK_mkL C w1_Gcd.t Tryd.func32 (by kernel_rfl) { merge := true, glue := true } (fun c _ => LoopsOK_nil c) 60 (by
    rintro ⟨a, ⟨b, ⟨⟩⟩⟩ h
    exact (w1_Mod.r a b).trans (w1_Mod.p (fun q => (.int .u64 (q) : Value)) a b h))

def w1_Even.val (q : Int) : Value := .int .u64 (q)
def w1_Even.h : List (Nat × List Nat × Nat) := [(4, [0, 3], 0)]
def w1_Even.e0 (q : Int × Int) : St := { tmps := [.val (.int .u64 (q).1), .unk, .unk, .val (.int .u64 (q).2), .unk, .unk, .unk, .unk, .unk, .unk, .unk, .unk, .unk, .unk], blks := [], saved := [] }
noncomputable def w1_Even.B0 : Code := loopAt [1, 1, 1, 0, 0] (fbody Tryd.f31)
noncomputable def w1_Even.H (F0 : LSum) : Heads := { heads := w1_Even.h, merge := true, sums := [(4, F0)] }
noncomputable def w1_Even.H0  : Heads := { heads := w1_Even.h, merge := true, sums := [] }
noncomputable def w1_Even.K0 (F0 : LSum) : Xt → St → Option Value := kAt P G (tab L_w1_Mod) (w1_Even.H F0) [1, 1, 1, 0, 0] 60 (fbody Tryd.f31) (retK P G Tryd.f31)
def w1_Even.l0.c0 {γ : Type} (k0 : Int × Int → Option γ) (k : Int → Option γ) (s0 : Int) (s3 : Int) (t1 : Int) (t2 : Int) : Option γ := bif s0.tmod 2 == 0
  then k0 (t1, t2)
  else k (s3)
def w1_Even.l0.c {γ : Type} (k0 : Int × Int → Option γ) (k : Int → Option γ) (s0 : Int) (s3 : Int) : Option γ := let t1 := IntKind.u64.wrap (s0.tdiv 2); let t2 := IntKind.u64.wrap (s3 * 2); w1_Even.l0.c0 k0 k s0 s3 t1 t2
def w1_Even.c {γ : Type} (k0 : Int × Int → Option γ) (k : Int → Option γ) (a : Int) : Option γ := bif a == 0
  then k (0)
  else k0 (a, 1)
def w1_Even.L0 (N : Nat)  : Nat → Int × Int → Option (Int)
  | 0, _ => none
  | m + 1, q => w1_Even.l0.c (w1_Even.L0 N m) some (q).1 (q).2
def w1_Even.o (N : Nat) (a : Int) : Option (Int) := w1_Even.c (w1_Even.L0 N  N) some a
noncomputable def w1_Even.S0 (N : Nat) : LSum := sumN P G (tab L_w1_Mod) (w1_Even.H0 ) 60 w1_Even.B0 N
theorem w1_Even.l0.p0 {γ δ : Type} (f : γ → δ) (k0 : Int × Int → Option γ) (k : Int → Option γ) (s0 : Int) (s3 : Int) (t1 : Int) (t2 : Int) : w1_Even.l0.c0 (fun q => (k0 q).map f) (fun q => (k q).map f) s0 s3 t1 t2 = (w1_Even.l0.c0 k0 k s0 s3 t1 t2).map f := by
  unfold w1_Even.l0.c0; (repeat' (first | (apply pm f) | (exact rfl)))
theorem w1_Even.l0.p {γ δ : Type} (f : γ → δ) (k0 : Int × Int → Option γ) (k : Int → Option γ) (s0 : Int) (s3 : Int) : w1_Even.l0.c (fun q => (k0 q).map f) (fun q => (k q).map f) s0 s3 = (w1_Even.l0.c k0 k s0 s3).map f :=
  let t1 := IntKind.u64.wrap (s0.tdiv 2); let t2 := IntKind.u64.wrap (s3 * 2); w1_Even.l0.p0 f k0 k s0 s3 t1 t2
theorem w1_Even.p {γ δ : Type} (f : γ → δ) (k0 : Int × Int → Option γ) (k : Int → Option γ) (a : Int) : w1_Even.c (fun q => (k0 q).map f) (fun q => (k q).map f) a = (w1_Even.c k0 k a).map f := by
  unfold w1_Even.c; (repeat' (first | (apply pm f) | (exact rfl)))
theorem w1_Even.S0.ok (N : Nat) : LoopsOK P G (w1_Even.H0 ).sums w1_Even.B0 := by
  refine LoopsOK_code fun i hi F hF => ?_
  have hlen : (loopsOf w1_Even.B0).length = 0 := by kernel_rfl
  rw [hlen] at hi
  omega

theorem w1_Even.S0.snd (N : Nat) : SoundL P G w1_Even.B0 (w1_Even.S0 N) := sumN_sound C.mixed C.names w1_Mod.t (w1_Even.S0.ok N) N
theorem w1_Even.l0.r (F0 G0 : LSum) (s0 : Int) (s3 : Int) : ex P G (tab L_w1_Mod) (w1_Even.H0 ) 60 w1_Even.B0 (w1_Even.e0 (s0, s3)) (roundK (w1_Even.H0 ) w1_Even.B0 G0 (w1_Even.K0 F0)) = w1_Even.l0.c (fun q => G0.run (w1_Even.e0 q) (w1_Even.K0 F0)) (fun q => some (w1_Even.val q)) s0 s3 := by kernel_rfl
theorem w1_Even.r (F0 : LSum) (a : Int) : runF P G (tab L_w1_Mod) (w1_Even.H F0) 60 Tryd.f31 [.int .u64 a] = w1_Even.c (fun q => F0.run (w1_Even.e0 q) (w1_Even.K0 F0)) (fun q => some (w1_Even.val q)) a := by kernel_rfl
theorem w1_Even.L0.ok (N : Nat) (F0 : LSum)   : ∀ m q, (sumN P G (tab L_w1_Mod) (w1_Even.H0 ) 60 w1_Even.B0 m).run (w1_Even.e0 q) (w1_Even.K0 F0) = (w1_Even.L0 N  m q).map w1_Even.val
  | 0, q => rfl
  | m + 1, q => by
    have ih := w1_Even.L0.ok N F0   m
    refine (sumN_run (n := m) rfl).trans ((w1_Even.l0.r F0 (sumN P G (tab L_w1_Mod) (w1_Even.H0 ) 60 w1_Even.B0 m) (q).1 (q).2).trans ?_)
    refine Eq.trans ?_ (w1_Even.l0.p w1_Even.val (w1_Even.L0 N m) some (q).1 (q).2)
    have e0 : (fun q => (sumN P G (tab L_w1_Mod) (w1_Even.H0 ) 60 w1_Even.B0 m).run (w1_Even.e0 q) (w1_Even.K0 F0)) = (fun q => ((w1_Even.L0 N m) q).map w1_Even.val) := funext ih
    rw [e0]; rfl

theorem w1_Even.q (N : Nat) (a : Int) : runF P G (tab L_w1_Mod) (w1_Even.H (w1_Even.S0 N)) 60 Tryd.f31 [.int .u64 a] = (w1_Even.o N a).map w1_Even.val := by
  have hk0 := w1_Even.L0.ok N (w1_Even.S0 N)   N
  refine (w1_Even.r (w1_Even.S0 N) a).trans ?_
  refine Eq.trans ?_ (w1_Even.p w1_Even.val (w1_Even.L0 N  N) some a)
  have e0 : (fun q => (w1_Even.S0 N).run (w1_Even.e0 q) (w1_Even.K0 (w1_Even.S0 N))) = (fun q => ((w1_Even.L0 N  N) q).map w1_Even.val) := funext hk0
  rw [e0]; rfl

theorem w1_Even.lok (N : Nat) : LoopsOK P G (w1_Even.H (w1_Even.S0 N)).sums (fbody Tryd.f31) := by
  refine LoopsOK_code fun i hi F hF => ?_
  have hlen : (loopsOf (fbody Tryd.f31)).length = 1 := by kernel_rfl
  rw [hlen] at hi
  match i, hi with
  | 0, _ => exact soundAt (B' := w1_Even.B0) (by kernel_rfl) (by kernel_rfl) (w1_Even.S0.snd N) hF
  | _ + 1, h => omega

def w1_Even (a : Int) : Int := hide ((w1_Even.o (67) a).getD (0))
def w1_Even.g (a : Int) : Bool := hide (w1_Even.o (67) a).isSome
theorem w1_Even.s (a : Int) (h : w1_Even.g a = true) : w1_Even.o (67) a = some (w1_Even a) := by
  unfold w1_Even.g at h; unfold w1_Even; simp only [hide_eq] at h ⊢; revert h; cases w1_Even.o (67) a <;> simp
def w1_Even.F : FV := mkF (cP (cI .u64) cU) (fun | (a, ()) => w1_Even.g a) (fun | (a, ()) => w1_Even.val (w1_Even a))
def L_w1_Even : TL := (31, w1_Even.F) :: L_w1_Mod
theorem w1_Even.t : TabOK P G (tab L_w1_Even) :=
  TabOK_mkH C w1_Mod.t Tryd.func31 (by kernel_rfl) (fun | (_, ()) => w1_Even.H (w1_Even.S0 (67))) (by rintro ⟨a, ⟨⟩⟩; exact w1_Even.lok _) 60 (by
    rintro ⟨a, ⟨⟩⟩ h
    exact (w1_Even.q (67) a).trans (congrArg (Option.map w1_Even.val) (w1_Even.s a h)))

def law_sum.c0 {γ : Type} (k : Int × Int → γ) (a : Int) (b : Int) (c : Int) (d : Int) (t1 : Int) (t2 : Int) (t3 : Int) : γ := bif decide (t1 < b)
  then k (t3, t1)
  else k (t2, t1)
def law_sum.c {γ : Type} (k : Int × Int → γ) (a : Int) (b : Int) (c : Int) (d : Int) : γ := let t1 := IntKind.u64.wrap (b + d); let t2 := IntKind.i64.wrap (a + c); let t3 := IntKind.i64.wrap (t2 + 1); law_sum.c0 k a b c d t1 t2 t3
def law_sum (a : Int) (b : Int) (c : Int) (d : Int) : Int × Int := law_sum.c id a b c d
def law_sum.F : FV := mkF (cP (cI .i64) (cP (cI .u64) (cP (cI .i64) (cP (cI .u64) cU)))) (fun _ => true) (fun | (a, (b, (c, (d, ())))) => .tuple #[.int .i64 (law_sum a b c d).1, .int .u64 (law_sum a b c d).2])
def L_law_sum : TL := (20, law_sum.F) :: L_w1_Even
theorem law_sum.p0 {γ : Type} (k : Int × Int → γ) (a : Int) (b : Int) (c : Int) (d : Int) (t1 : Int) (t2 : Int) (t3 : Int) : law_sum.c0 k a b c d t1 t2 t3 = k (law_sum.c0 id a b c d t1 t2 t3) := by
  unfold law_sum.c0; (repeat' (first | (apply pc k) | (exact rfl)))
theorem law_sum.p {γ : Type} (k : Int × Int → γ) (a : Int) (b : Int) (c : Int) (d : Int) : law_sum.c k a b c d = k (law_sum a b c d) :=
  let t1 := IntKind.u64.wrap (b + d); let t2 := IntKind.i64.wrap (a + c); let t3 := IntKind.i64.wrap (t2 + 1); law_sum.p0 k a b c d t1 t2 t3
theorem law_sum.r (a : Int) (b : Int) (c : Int) (d : Int) : runF P G (tab L_w1_Even) { merge := true, glue := true } 60 Tryd.f20 [.int .i64 a, .int .u64 b, .int .i64 c, .int .u64 d] = law_sum.c (fun q => some (.tuple #[.int .i64 (q).1, .int .u64 (q).2] : Value)) a b c d := by kernel_rfl
theorem law_sum.t : TabOK P G (tab L_law_sum) :=
  TabOK_mkL C w1_Even.t Tryd.func20 (by kernel_rfl) { merge := true, glue := true } (fun c _ => LoopsOK_nil c) 60 (by
    rintro ⟨a, ⟨b, ⟨c, ⟨d, ⟨⟩⟩⟩⟩⟩ h
    exact (law_sum.r a b c d).trans (law_sum.p (fun q => some (.tuple #[.int .i64 (q).1, .int .u64 (q).2] : Value)) a b c d))

def law_WordOps.c0 {γ : Type} (n : γ) (k : Bool → γ) (a : Int) (b : Int) (c : Int) (d : Int) (t1 : Bool) (t2 : Bool) (t3 : Int × Bool) (t4 : Int × Bool) (t5 : Bool) (t6 : Int × Bool) (t7 : Int × Bool) (t8 : Bool) (t9 : Bool) (t10 : Bool) (t11 : Bool) (t12 : Int × Int) (t13 : Int × Int) (t14 : Bool) (t15 : Bool) (t16 : Int) (t17 : Int) (t18 : Bool) (t19 : Bool) (t20 : Int) (t21 : Int) (t22 : Bool) (t23 : Bool) (t24 : Int) (t25 : Int) (t26 : Bool) (t27 : Int) (t28 : Int) (t29 : Bool) (t30 : Bool) (t31 : Bool) (t32 : Bool) (t33 : Int) (t34 : Int) (t35 : Bool) (t36 : Int) (t37 : Int) (t38 : Bool) (t39 : Int) (t40 : Int) (t41 : Bool) (t42 : Bool) : γ := bif t1
  then bif t2
   then bif t9
    then k (false)
    else bif t10
     then bif (t11 || !(!t14 && true)) && ((t15 || !(!t18 && true)) && ((t19 || !(!t22 && true)) && ((t23 || !(!t26 && true)) && true)))
      then bif t29
       then k (false)
       else bif (t30 || !true) && ((t31 || !true) && ((t32 || !(t33 == t34 && true)) && ((t35 || !(t38 && true)) && ((law_taken.ok || !(t41 && true)) && true))))
        then k (t42)
        else n
      else n
     else n
   else n
  else n
def law_WordOps.c {γ : Type} (n : γ) (k : Bool → γ) (a : Int) (b : Int) (c : Int) (d : Int) : γ := let t1 := w1_Div.ok a b; let t2 := w1_Rem.ok a b; let t3 := word_Div a b; let t4 := w1_Div a b; let t5 := bif t3.fst != t4.fst then true else !t3.snd == t4.snd; let t6 := word_Rem a b; let t7 := w1_Rem a b; let t8 := bif t5 then true else t6.fst != t7.fst; let t9 := bif t8 then true else !t6.snd == t7.snd; let t10 := w1_Wide.ok a b; let t11 := w1_Add.g a b; let t12 := word_Wide a b; let t13 := w1_Wide a b; let t14 := bif t12.fst != t13.fst then true else t12.snd != t13.snd; let t15 := w1_Sub.ok a b; let t16 := word_Add a b; let t17 := w1_Add a b; let t18 := bif t14 then true else t16 != t17; let t19 := w1_Mul.g a b; let t20 := word_Sub a b; let t21 := w1_Sub a b; let t22 := bif t18 then true else t20 != t21; let t23 := w1_Neg.ok a; let t24 := word_Mul a b; let t25 := w1_Mul a b; let t26 := bif t22 then true else t24 != t25; let t27 := word_Neg a; let t28 := w1_Neg a; let t29 := bif t26 then true else t27 != t28; let t30 := word_Gcd.g c d; let t31 := w1_Gcd.g c d; let t32 := w1_Even.g c; let t33 := word_Gcd c d; let t34 := w1_Gcd c d; let t35 := w1_Mod.ok a c; let t36 := word_Even c; let t37 := w1_Even c; let t38 := bif t33 == t34 then t36 == t37 else false; let t39 := word_Mod a c; let t40 := w1_Mod a c; let t41 := bif t38 then t39 == t40 else false; let t42 := bif t41 then law_taken else false; law_WordOps.c0 n k a b c d t1 t2 t3 t4 t5 t6 t7 t8 t9 t10 t11 t12 t13 t14 t15 t16 t17 t18 t19 t20 t21 t22 t23 t24 t25 t26 t27 t28 t29 t30 t31 t32 t33 t34 t35 t36 t37 t38 t39 t40 t41 t42
theorem law_WordOps.r (a : Int) (b : Int) (c : Int) (d : Int) : runF P G (tab L_law_sum) { merge := true, glue := true } 60 Tryd.f6 [.int .i64 a, .int .i64 b, .int .u64 c, .int .u64 d] = law_WordOps.c none (fun q => some (.bool (q) : Value)) a b c d := by kernel_rfl

def law_WordWhole.c0 {γ : Type} (n : γ) (k : Bool → γ) (a : Int) (b : Int) (c : Int) (t1 : Int) (t2 : Int) (t3 : Int) (t4 : Int) (t5 : Bool) (t6 : Int) (t7 : Int) (t8 : Int) (t9 : Bool) (t10 : Int) (t11 : Int) (t12 : Int) (t13 : Int) (t14 : Int) (t15 : Bool) (t16 : Int) (t17 : Bool) (t18 : Int × Int) (t19 : Int) (t20 : Int) (t21 : Int × Int) (t22 : Int) (t23 : Int × Int) (t24 : Int × Int) (t25 : Bool) (t26 : Int × Int) (t27 : Int) (t28 : Bool) (t29 : Bool) (t30 : Int × Bool) (t31 : Int × Bool) (t32 : Bool) (t33 : Bool) (t34 : Bool) (t35 : Bool) (t36 : Bool) (t37 : Int) (t38 : Int) (t39 : Bool) (t40 : Bool) (t41 : Bool) (t42 : Bool) (t43 : Bool) (t44 : Bool) (t45 : Bool) (t46 : Int) (t47 : Bool) (t48 : Bool) (t49 : Bool) (t50 : Bool) (t51 : Bool) (t52 : Bool) (t53 : Bool) (t54 : Bool) (t55 : Bool) (t56 : Bool) (t57 : Bool) : γ := bif t17
  then k (false)
  else bif t18.snd != t19
   then k (false)
   else bif t25
    then k (false)
    else bif t29
     then k (false)
     else bif b == 0
      then bif (law_taken.ok || !(t34 && true)) && true
       then k (t35)
       else n
      else bif t41
       then k (false)
       else bif (law_taken.ok || !(t56 && true)) && true
        then k (t57)
        else n
def law_WordWhole.c {γ : Type} (n : γ) (k : Bool → γ) (a : Int) (b : Int) (c : Int) : γ := let t1 := word_Add a b; let t2 := word_Sub t1 b; let t3 := word_Neg a; let t4 := word_Add a t3; let t5 := bif t2 != a then true else t4 != 0; let t6 := word_Sub a b; let t7 := word_Neg b; let t8 := word_Add a t7; let t9 := bif t5 then true else t6 != t8; let t10 := word_Add b c; let t11 := word_Mul a t10; let t12 := word_Mul a b; let t13 := word_Mul a c; let t14 := word_Add t12 t13; let t15 := bif t9 then true else t11 != t14; let t16 := word_Mul a 1; let t17 := bif t15 then true else t16 != a; let t18 := word_Wide a b; let t19 := IntKind.u64.wrap t12; let t20 := IntKind.i64.wrap (b.tdiv 2); let t21 := word_Wide a t20; let t22 := IntKind.i64.wrap (b - t20); let t23 := word_Wide a t22; let t24 := law_sum t21.fst t21.snd t23.fst t23.snd; let t25 := bif t24.fst != t18.fst then true else t24.snd != t18.snd; let t26 := word_Wide a 1; let t27 := IntKind.i64.wrap t26.snd; let t28 := bif t27 != a then true else !decide (a < 0) == (t26.fst == -1); let t29 := bif t28 then true else !decide (a ≥ 0) == (t26.fst == 0); let t30 := word_Div a b; let t31 := word_Rem a b; let t32 := bif !t30.snd then !t31.snd else false; let t33 := bif t32 then t30.fst == 0 else false; let t34 := bif t33 then t31.fst == 0 else false; let t35 := bif t34 then law_taken else false; let t36 := bif !t30.snd then true else !t31.snd; let t37 := word_Mul t30.fst b; let t38 := word_Add t37 t31.fst; let t39 := bif t36 then true else t38 != a; let t40 := bif t31.fst != 0 then !decide (t31.fst < 0) == decide (a < 0) else false; let t41 := bif t39 then true else t40; let t42 := bif decide (t31.fst < 0) then decide (b < 0) else false; let t43 := bif t42 then decide (t31.fst > b) else false; let t44 := bif b == -9223372036854775808 then true else t43; let t45 := bif decide (t31.fst < 0) then decide (b > 0) else false; let t46 := IntKind.i64.wrap (0 - b); let t47 := bif t45 then decide (t31.fst > t46) else false; let t48 := bif t44 then true else t47; let t49 := bif decide (t31.fst ≥ 0) then decide (b > 0) else false; let t50 := bif t49 then decide (t31.fst < b) else false; let t51 := bif t48 then true else t50; let t52 := bif decide (t31.fst ≥ 0) then decide (b < 0) else false; let t53 := bif t52 then decide (t31.fst < t46) else false; let t54 := bif t51 then true else t53; let t55 := bif b != -9223372036854775808 then true else t31.fst != -9223372036854775808; let t56 := bif t54 then t55 else false; let t57 := bif t56 then law_taken else false; law_WordWhole.c0 n k a b c t1 t2 t3 t4 t5 t6 t7 t8 t9 t10 t11 t12 t13 t14 t15 t16 t17 t18 t19 t20 t21 t22 t23 t24 t25 t26 t27 t28 t29 t30 t31 t32 t33 t34 t35 t36 t37 t38 t39 t40 t41 t42 t43 t44 t45 t46 t47 t48 t49 t50 t51 t52 t53 t54 t55 t56 t57
theorem law_WordWhole.r (a : Int) (b : Int) (c : Int) : runF P G (tab L_law_sum) { merge := true, glue := true } 60 Tryd.f5 [.int .i64 a, .int .i64 b, .int .i64 c] = law_WordWhole.c none (fun q => some (.bool (q) : Value)) a b c := by kernel_rfl

def law_WordDivides.c0 {γ : Type} (n : γ) (k : Bool → γ) (a : Int) (b : Int) (c : Int) (d : Int) (t1 : Bool) (t2 : Bool) (t3 : Int) (t4 : Bool) (t5 : Int) (t6 : Bool) (t7 : Bool) (t8 : Int) (t9 : Int) (t10 : Bool) (t11 : Int) (t12 : Bool) (t13 : Bool) (t14 : Int) (t15 : Int) (t16 : Int) (t17 : Bool) (t18 : Bool) (t19 : Int) (t20 : Bool) (t21 : Bool) (t22 : Int) (t23 : Bool) (t24 : Int) (t25 : Int) (t26 : Bool) (t27 : Int) (t28 : Int) (t29 : Int) (t30 : Bool) (t31 : Int) (t32 : Bool) (t33 : Bool) (t34 : Bool) : γ := bif t1
  then bif (t2 || !(!!(t3 == 0) == t4 && true)) && true
   then bif t6
    then k (false)
    else bif (!decide (t3 = 0) || !(decide (t3 > 0) && true)) && ((!decide (t3 = 0) || !(!a.tmod t3 != 0 && (decide (t3 > 0) && true))) && ((!decide (t3 = 0) || !(!t7 && (decide (t3 > 0) && true))) && ((!decide (t3 = 0) || !(!t7 && (decide (t3 > 0) && true))) && ((t10 || !(!t7 && (decide (t3 > 0) && true))) && true))))
     then bif t13
      then k (false)
      else bif d == 0
       then bif (law_taken.ok || !(t17 && true)) && true
        then k (t18)
        else n
       else bif (!decide (t14 = 0) || !(!t20 && true)) && ((!decide (t14 = 0) || !(!t21 && true)) && ((!decide (2 = 0) || !(!t21 && true)) && true))
        then bif t23
         then k (false)
         else bif t26
          then k (false)
          else bif c != 9223372036854775807
           then bif t33
            then k (false)
            else bif (!decide (d = 0) || !(decide (c ≥ 0) && true)) && true
             then bif t34
              then k (false)
              else bif law_taken.ok
               then k (law_taken)
               else n
             else n
           else bif (!decide (d = 0) || !(decide (c ≥ 0) && true)) && true
            then bif t34
             then k (false)
             else bif law_taken.ok
              then k (law_taken)
              else n
            else n
        else n
     else n
   else n
  else n
def law_WordDivides.c {γ : Type} (n : γ) (k : Bool → γ) (a : Int) (b : Int) (c : Int) (d : Int) : γ := let t1 := word_Gcd.g a b; let t2 := word_Gcd.g b a; let t3 := word_Gcd a b; let t4 := bif a == 0 then b == 0 else false; let t5 := word_Gcd b a; let t6 := bif !(t3 == 0) == t4 then true else t5 != t3; let t7 := bif a.tmod t3 != 0 then true else b.tmod t3 != 0; let t8 := IntKind.u64.wrap (a.tdiv t3); let t9 := IntKind.u64.wrap (b.tdiv t3); let t10 := word_Gcd.g t8 t9; let t11 := word_Gcd t8 t9; let t12 := bif t7 then true else t11 != 1; let t13 := bif decide (t3 > 0) then t12 else false; let t14 := word_Even d; let t15 := word_Mod c 0; let t16 := IntKind.u64.wrap c; let t17 := bif t14 == 0 then t15 == t16 else false; let t18 := bif t17 then law_taken else false; let t19 := IntKind.u64.wrap (t14 - 1); let t20 := bif t14 == 0 then true else andI IntKind.u64 t14 t19 != 0; let t21 := bif t20 then true else d.tmod t14 != 0; let t22 := IntKind.u64.wrap (d.tdiv t14); let t23 := bif t21 then true else t22.tmod 2 != 1; let t24 := word_Mod c d; let t25 := word_Mod 0 d; let t26 := bif decide (t24 ≥ d) then true else t25 != 0; let t27 := IntKind.u64.wrap (d - 1); let t28 := IntKind.i64.wrap (c + 1); let t29 := word_Mod t28 d; let t30 := bif t24 == t27 then t29 != 0 else false; let t31 := IntKind.u64.wrap (t24 + 1); let t32 := bif decide (t24 < t27) then t29 != t31 else false; let t33 := bif t30 then true else t32; let t34 := bif decide (c ≥ 0) then t24 != t16.tmod d else false; law_WordDivides.c0 n k a b c d t1 t2 t3 t4 t5 t6 t7 t8 t9 t10 t11 t12 t13 t14 t15 t16 t17 t18 t19 t20 t21 t22 t23 t24 t25 t26 t27 t28 t29 t30 t31 t32 t33 t34
theorem law_WordDivides.r (a : Int) (b : Int) (c : Int) (d : Int) : runF P G (tab L_law_sum) { merge := true, glue := true } 60 Tryd.f4 [.int .u64 a, .int .u64 b, .int .i64 c, .int .u64 d] = law_WordDivides.c none (fun q => some (.bool (q) : Value)) a b c d := by kernel_rfl

end
end Go.Proofs.YtfcgmfefdgcmjaaDoor.V
