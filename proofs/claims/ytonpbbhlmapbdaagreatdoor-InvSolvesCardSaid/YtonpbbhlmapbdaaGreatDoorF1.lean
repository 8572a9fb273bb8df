/- What the functions of this seat compute, told by evaluation of their code. Conditions: none. -/
import Derived.Test.YtonpbbhlmapbdaaGreatDoorE7
set_option linter.unusedVariables false
set_option linter.unusedSimpArgs false
namespace Go.Proofs.YtonpbbhlmapbdaaGreatDoor.V
open Go Go.Wk
noncomputable section
def w1_Add.val (q : Int) : Value := .int .i64 (q)
def w1_Add.h : List (Nat × List Nat × Nat) := [(2, [5, 6], 0)]
def w1_Add.e0 (q : Int × Int) : St := { tmps := [.unk, .unk, .unk, .unk, .unk, .val (.int .u64 (q).1), .val (.int .u64 (q).2), .unk, .unk, .unk, .unk, .unk, .unk, .unk, .unk, .unk, .unk, .unk, .unk, .unk, .unk, .unk, .unk, .unk], blks := [], saved := [] }
noncomputable def w1_Add.B0 : Code := loopAt [1, 1, 0, 0] (fbody Tryz.f109)
noncomputable def w1_Add.H (F0 : LSum) : Heads := { heads := w1_Add.h, merge := true, sums := [(2, F0)] }
noncomputable def w1_Add.H0  : Heads := { heads := w1_Add.h, merge := true, sums := [] }
noncomputable def w1_Add.K0 (F0 : LSum) : Xt → St → Option Value := kAt P G (tab L_nref_Apply) (w1_Add.H F0) [1, 1, 0, 0] 60 (fbody Tryz.f109) (retK P G Tryz.f109)
def w1_Add.l0.c0 {γ : Type} (k0 : Int × Int → Option γ) (k : Int → Option γ) (s5 s6 t1 t2 : Int) : Option γ := bif s6 != 0
then k0 (xorI IntKind.u64 s5 s6, t1)
else k (t2)
def w1_Add.l0.c {γ : Type} (k0 : Int × Int → Option γ) (k : Int → Option γ) (s5 s6 : Int) : Option γ := let t1 := IntKind.u64.wrap (andI IntKind.u64 s5 s6 * 2 ^ min (Int.toNat 1) IntKind.u64.bits); let t2 := IntKind.i64.wrap s5; w1_Add.l0.c0 k0 k s5 s6 t1 t2
def w1_Add.c0 {γ : Type} (k0 : Int × Int → Option γ) (k : Int → Option γ) (a b t1 t2 : Int) : Option γ := k0 (t1, t2)
def w1_Add.c {γ : Type} (k0 : Int × Int → Option γ) (k : Int → Option γ) (a b : Int) : Option γ := let t1 := IntKind.u64.wrap a; let t2 := IntKind.u64.wrap b; w1_Add.c0 k0 k a b t1 t2
def w1_Add.L0 (N : Nat)  : Nat → Int × Int → Option (Int)
  | 0, _ => none
  | m + 1, q => w1_Add.l0.c (w1_Add.L0 N m) some (q).1 (q).2
def w1_Add.o (N : Nat) (a b : Int) : Option (Int) := w1_Add.c (w1_Add.L0 N  N) some a b
noncomputable def w1_Add.S0 (N : Nat) : LSum := sumN P G (tab L_nref_Apply) (w1_Add.H0 ) 60 w1_Add.B0 N
theorem w1_Add.l0.p0 {γ δ : Type} (f : γ → δ) (k0 : Int × Int → Option γ) (k : Int → Option γ) (s5 s6 t1 t2) : w1_Add.l0.c0 (fun q => (k0 q).map f) (fun q => (k q).map f) s5 s6 t1 t2 = (w1_Add.l0.c0 k0 k s5 s6 t1 t2).map f := by
  unfold w1_Add.l0.c0; (repeat' (first | (apply pm f) | (exact rfl)))
theorem w1_Add.l0.p {γ δ : Type} (f : γ → δ) (k0 : Int × Int → Option γ) (k : Int → Option γ) (s5 s6 : Int) : w1_Add.l0.c (fun q => (k0 q).map f) (fun q => (k q).map f) s5 s6 = (w1_Add.l0.c k0 k s5 s6).map f := by
  unfold w1_Add.l0.c; apply w1_Add.l0.p0
theorem w1_Add.p0 {γ δ : Type} (f : γ → δ) (k0 : Int × Int → Option γ) (k : Int → Option γ) (a b t1 t2) : w1_Add.c0 (fun q => (k0 q).map f) (fun q => (k q).map f) a b t1 t2 = (w1_Add.c0 k0 k a b t1 t2).map f := by
  unfold w1_Add.c0; (repeat' (first | (apply pm f) | (exact rfl)))
theorem w1_Add.p {γ δ : Type} (f : γ → δ) (k0 : Int × Int → Option γ) (k : Int → Option γ) (a b : Int) : w1_Add.c (fun q => (k0 q).map f) (fun q => (k q).map f) a b = (w1_Add.c k0 k a b).map f := by
  unfold w1_Add.c; apply w1_Add.p0
theorem w1_Add.S0.ok (N : Nat) : LoopsOK P G (w1_Add.H0 ).sums w1_Add.B0 := by
  refine LoopsOK_code fun i hi F hF => ?_
  have hlen : (loopsOf w1_Add.B0).length = 0 := by kernel_rfl
  rw [hlen] at hi
  omega
theorem w1_Add.S0.snd (N : Nat) : SoundL P G w1_Add.B0 (w1_Add.S0 N) := sumN_sound C.mixed C.names nref_Apply.t (w1_Add.S0.ok N) N
theorem w1_Add.l0.r (F0 G0 : LSum) (s5 s6 : Int) : ex P G (tab L_nref_Apply) (w1_Add.H0 ) 60 w1_Add.B0 (w1_Add.e0 (s5, s6)) (roundK (w1_Add.H0 ) w1_Add.B0 G0 (w1_Add.K0 F0)) = w1_Add.l0.c (fun q => G0.run (w1_Add.e0 q) (w1_Add.K0 F0)) (fun q => some (w1_Add.val q)) s5 s6 := by kernel_rfl
theorem w1_Add.r (F0 : LSum) (a b : Int) : runF P G (tab L_nref_Apply) (w1_Add.H F0) 60 Tryz.f109 [.int .i64 a, .int .i64 b] = w1_Add.c (fun q => F0.run (w1_Add.e0 q) (w1_Add.K0 F0)) (fun q => some (w1_Add.val q)) a b := by kernel_rfl
theorem w1_Add.L0.ok (N : Nat) (F0 : LSum)   : ∀ m q, (sumN P G (tab L_nref_Apply) (w1_Add.H0 ) 60 w1_Add.B0 m).run (w1_Add.e0 q) (w1_Add.K0 F0) = (w1_Add.L0 N  m q).map w1_Add.val
  | 0, q => rfl
  | m + 1, q => by
    have ih := w1_Add.L0.ok N F0   m
    refine (sumN_run (n := m) rfl).trans ((w1_Add.l0.r F0 (sumN P G (tab L_nref_Apply) (w1_Add.H0 ) 60 w1_Add.B0 m) (q).1 (q).2).trans ?_)
    refine Eq.trans ?_ (w1_Add.l0.p w1_Add.val (w1_Add.L0 N m) some (q).1 (q).2)
    have e0 : (fun q => (sumN P G (tab L_nref_Apply) (w1_Add.H0 ) 60 w1_Add.B0 m).run (w1_Add.e0 q) (w1_Add.K0 F0)) = (fun q => ((w1_Add.L0 N m) q).map w1_Add.val) := funext ih
    rw [e0]; rfl
theorem w1_Add.q (N : Nat) (a b : Int) : runF P G (tab L_nref_Apply) (w1_Add.H (w1_Add.S0 N)) 60 Tryz.f109 [.int .i64 a, .int .i64 b] = (w1_Add.o N a b).map w1_Add.val := by
  have hk0 := w1_Add.L0.ok N (w1_Add.S0 N)   N
  refine (w1_Add.r (w1_Add.S0 N) a b).trans ?_
  refine Eq.trans ?_ (w1_Add.p w1_Add.val (w1_Add.L0 N  N) some a b)
  have e0 : (fun q => (w1_Add.S0 N).run (w1_Add.e0 q) (w1_Add.K0 (w1_Add.S0 N))) = (fun q => ((w1_Add.L0 N  N) q).map w1_Add.val) := funext hk0
  rw [e0]; rfl
theorem w1_Add.lok (N : Nat) : LoopsOK P G (w1_Add.H (w1_Add.S0 N)).sums (fbody Tryz.f109) := by
  refine LoopsOK_code fun i hi F hF => ?_
  have hlen : (loopsOf (fbody Tryz.f109)).length = 1 := by kernel_rfl
  rw [hlen] at hi
  match i, hi with
  | 0, _ => exact soundAt (B' := w1_Add.B0) (by kernel_rfl) (by kernel_rfl) (w1_Add.S0.snd N) hF
  | _ + 1, h => omega
def w1_Add (a b : Int) : Int := hide ((w1_Add.o (67) a b).getD (0))
def w1_Add.g (a b : Int) : Bool := hide (w1_Add.o (67) a b).isSome
theorem w1_Add.s (a b : Int) (h : w1_Add.g a b = true) : w1_Add.o (67) a b = some (w1_Add a b) := by
  unfold w1_Add.g at h; unfold w1_Add; simp only [hide_eq] at h ⊢; revert h; cases w1_Add.o (67) a b <;> simp
def w1_Add.F : FV := mkF (cP (cI .i64) (cP (cI .i64) cU)) (fun | (a, b, ()) => w1_Add.g a b) (fun | (a, b, ()) => w1_Add.val (w1_Add a b))
def L_w1_Add : TL := (109, w1_Add.F) :: L_nref_Apply
theorem w1_Add.t : TabOK P G (tab L_w1_Add) :=
  TabOK_mkH C nref_Apply.t Tryz.func109 (by kernel_rfl) (fun | (_, (_, ())) => w1_Add.H (w1_Add.S0 (67))) (by rintro ⟨a, b, ⟨⟩⟩; exact w1_Add.lok _) 60 (by
    rintro ⟨a, b, ⟨⟩⟩ h
    exact (w1_Add.q (67) a b).trans (congrArg (Option.map w1_Add.val) (w1_Add.s a b h)))
def w1_Neg.c0 {γ : Type} (n : γ) (k : Int → γ) (a t1 t2 t3 : Int) (t4 : Bool) (t5 : Int) : γ := bif t4
then k (t5)
else n
def w1_Neg.c {γ : Type} (n : γ) (k : Int → γ) (a : Int) : γ := let t1 := if IntKind.u64.signed = true then -1 else IntKind.u64.max; let t2 := IntKind.u64.wrap a; let t3 := IntKind.i64.wrap (xorI IntKind.u64 t1 t2); let t4 := w1_Add.g t3 1; let t5 := w1_Add t3 1; w1_Neg.c0 n k a t1 t2 t3 t4 t5
def w1_Neg.ok (a : Int) : Bool := w1_Neg.c false (fun _ => true) a
def w1_Neg (a : Int) : Int := w1_Neg.c (0) id a
def w1_Neg.F : FV := mkF (cP (cI .i64) cU) (fun | (a, ()) => w1_Neg.ok a) (fun | (a, ()) => .int .i64 (w1_Neg a))
def L_w1_Neg : TL := (108, w1_Neg.F) :: L_w1_Add
theorem w1_Neg.p0 {γ : Type} (k : Int → γ) (a t1 t2 t3 t4 t5) : w1_Neg.c0 false (fun _ => true) a t1 t2 t3 t4 t5 = true → w1_Neg.c0 none (fun q => some (k q)) a t1 t2 t3 t4 t5 = some (k (w1_Neg.c0 (0) id a t1 t2 t3 t4 t5)) := by
  unfold w1_Neg.c0; (repeat' (first | (apply pn k) | (exact pn_none _ _) | (exact pn_leaf k _)))
theorem w1_Neg.p {γ : Type} (k : Int → γ) (a : Int) (h : w1_Neg.ok a = true) : w1_Neg.c none (fun q => some (k q)) a = some (k (w1_Neg a)) := by
  revert h; unfold w1_Neg.ok w1_Neg w1_Neg.c; apply w1_Neg.p0
theorem w1_Neg.r (a : Int) : runF P G (tab L_w1_Add) { merge := true, glue := true } 60 Tryz.f108 [.int .i64 a] = w1_Neg.c none (fun q => some (.int .i64 (q) : Value)) a := by kernel_rfl
theorem w1_Neg.t : TabOK P G (tab L_w1_Neg) :=
  TabOK_mkL C w1_Add.t Tryz.func108 (by kernel_rfl) { merge := true, glue := true } (fun c _ => LoopsOK_nil c) 60 (by
    rintro ⟨a, ⟨⟩⟩ h
    exact (w1_Neg.r a).trans (w1_Neg.p (fun q => (.int .i64 (q) : Value)) a h))
def w1_Abs.c0 {γ : Type} (n : γ) (k : Int → γ) (a : Int) (t1 : Bool) (t2 t3 t4 : Int) : γ := bif decide (a < 0)
then bif t1
then k (t3)
else n
else k (t4)
def w1_Abs.c {γ : Type} (n : γ) (k : Int → γ) (a : Int) : γ := let t1 := w1_Neg.ok a; let t2 := w1_Neg a; let t3 := IntKind.u64.wrap t2; let t4 := IntKind.u64.wrap a; w1_Abs.c0 n k a t1 t2 t3 t4
def w1_Abs.ok (a : Int) : Bool := w1_Abs.c false (fun _ => true) a
def w1_Abs (a : Int) : Int := w1_Abs.c (0) id a
def w1_Abs.F : FV := mkF (cP (cI .i64) cU) (fun | (a, ()) => w1_Abs.ok a) (fun | (a, ()) => .int .u64 (w1_Abs a))
def L_w1_Abs : TL := (185, w1_Abs.F) :: L_w1_Neg
theorem w1_Abs.p0 {γ : Type} (k : Int → γ) (a t1 t2 t3 t4) : w1_Abs.c0 false (fun _ => true) a t1 t2 t3 t4 = true → w1_Abs.c0 none (fun q => some (k q)) a t1 t2 t3 t4 = some (k (w1_Abs.c0 (0) id a t1 t2 t3 t4)) := by
  unfold w1_Abs.c0; (repeat' (first | (apply pn k) | (exact pn_none _ _) | (exact pn_leaf k _)))
theorem w1_Abs.p {γ : Type} (k : Int → γ) (a : Int) (h : w1_Abs.ok a = true) : w1_Abs.c none (fun q => some (k q)) a = some (k (w1_Abs a)) := by
  revert h; unfold w1_Abs.ok w1_Abs w1_Abs.c; apply w1_Abs.p0
theorem w1_Abs.r (a : Int) : runF P G (tab L_w1_Neg) { merge := true, glue := true } 60 Tryz.f185 [.int .i64 a] = w1_Abs.c none (fun q => some (.int .u64 (q) : Value)) a := by kernel_rfl
theorem w1_Abs.t : TabOK P G (tab L_w1_Abs) :=
  TabOK_mkL C w1_Neg.t Tryz.func185 (by kernel_rfl) { merge := true, glue := true } (fun c _ => LoopsOK_nil c) 60 (by
    rintro ⟨a, ⟨⟩⟩ h
    exact (w1_Abs.r a).trans (w1_Abs.p (fun q => (.int .u64 (q) : Value)) a h))
def w1_long.val (q : Int × Int) : Value := .tuple #[.int .u64 (q).1, .int .u64 (q).2]
def w1_long.h : List (Nat × List Nat × Nat) := [(3, [0, 1, 6, 7, 8], 0)]
def w1_long.e0 (q : Int × Int × Int × Int × Int) : St := { tmps := [.val (.int .u64 (q).1), .val (.int .u64 (q).2.1), .unk, .unk, .unk, .unk, .val (.int .u64 (q).2.2.1), .val (.int .u64 (q).2.2.2.1), .val (.int .i64 (q).2.2.2.2), .unk, .unk, .unk, .unk, .unk, .unk, .unk, .unk, .unk, .unk, .unk, .unk, .unk, .unk, .unk, .unk, .unk, .unk, .unk, .unk, .unk, .unk, .unk, .unk, .unk, .unk, .unk, .unk, .unk], blks := [], saved := [] }
noncomputable def w1_long.B0 : Code := loopAt [1, 1, 0, 1, 0] (fbody Tryz.f197)
noncomputable def w1_long.H (F0 : LSum) : Heads := { heads := w1_long.h, merge := true, sums := [(3, F0)] }
noncomputable def w1_long.H0  : Heads := { heads := w1_long.h, merge := true, sums := [] }
noncomputable def w1_long.K0 (F0 : LSum) : Xt → St → Option Value := kAt P G (tab L_w1_Abs) (w1_long.H F0) [1, 1, 0, 1, 0] 60 (fbody Tryz.f197) (retK P G Tryz.f197)
def w1_long.l0.c0 {γ : Type} (k0 : Int × Int × Int × Int × Int → Option γ) (k : Int × Int → Option γ) (s0 s1 s6 s7 s8 t1 t2 t3 t4 : Int) (t5 : Bool) (t6 t7 : Int) : Option γ := bif decide (s8 ≥ 0)
then bif !decide (s8 < 0)
then bif decide (s7 ≥ 9223372036854775808)
then bif !decide (s8 < 0) && true && true || !decide (s8 < 0) && true
then k0 (s0, s1, orI IntKind.u64 s6 t1, t3, t4)
else none
else bif !decide (s8 < 0) && true && true || t5
then k0 (s0, s1, t6, t7, t4)
else none
else none
else k (s6, s7)
def w1_long.l0.c {γ : Type} (k0 : Int × Int × Int × Int × Int → Option γ) (k : Int × Int → Option γ) (s0 s1 s6 s7 s8 : Int) : Option γ := let t1 := IntKind.u64.wrap (1 * 2 ^ min s8.toNat IntKind.u64.bits); let t2 := IntKind.u64.wrap (s7 * 2 ^ min (Int.toNat 1) IntKind.u64.bits); let t3 := IntKind.u64.wrap (orI IntKind.u64 t2 ((s0.fdiv (2 ^ min s8.toNat IntKind.u64.bits)).tmod 2) - s1); let t4 := IntKind.i64.wrap (s8 - 1); let t5 := bif decide (orI IntKind.u64 t2 ((s0.fdiv (2 ^ min s8.toNat IntKind.u64.bits)).tmod 2) ≥ s1) then !decide (s8 < 0) && true else true; let t6 := bif decide (orI IntKind.u64 t2 ((s0.fdiv (2 ^ min s8.toNat IntKind.u64.bits)).tmod 2) ≥ s1) then orI IntKind.u64 s6 t1 else s6; let t7 := bif decide (orI IntKind.u64 t2 ((s0.fdiv (2 ^ min s8.toNat IntKind.u64.bits)).tmod 2) ≥ s1) then t3 else orI IntKind.u64 t2 ((s0.fdiv (2 ^ min s8.toNat IntKind.u64.bits)).tmod 2); w1_long.l0.c0 k0 k s0 s1 s6 s7 s8 t1 t2 t3 t4 t5 t6 t7
def w1_long.c {γ : Type} (k0 : Int × Int × Int × Int × Int → Option γ) (k : Int × Int → Option γ) (a b : Int) : Option γ := k0 (a, b, 0, 0, 63)
def w1_long.L0 (N : Nat)  : Nat → Int × Int × Int × Int × Int → Option (Int × Int)
  | 0, _ => none
  | m + 1, q => w1_long.l0.c (w1_long.L0 N m) some (q).1 (q).2.1 (q).2.2.1 (q).2.2.2.1 (q).2.2.2.2
def w1_long.o (N : Nat) (a b : Int) : Option (Int × Int) := w1_long.c (w1_long.L0 N  N) some a b
noncomputable def w1_long.S0 (N : Nat) : LSum := sumN P G (tab L_w1_Abs) (w1_long.H0 ) 60 w1_long.B0 N
theorem w1_long.l0.p0 {γ δ : Type} (f : γ → δ) (k0 : Int × Int × Int × Int × Int → Option γ) (k : Int × Int → Option γ) (s0 s1 s6 s7 s8 t1 t2 t3 t4 t5 t6 t7) : w1_long.l0.c0 (fun q => (k0 q).map f) (fun q => (k q).map f) s0 s1 s6 s7 s8 t1 t2 t3 t4 t5 t6 t7 = (w1_long.l0.c0 k0 k s0 s1 s6 s7 s8 t1 t2 t3 t4 t5 t6 t7).map f := by
  unfold w1_long.l0.c0; (repeat' (first | (apply pm f) | (exact rfl)))
theorem w1_long.l0.p {γ δ : Type} (f : γ → δ) (k0 : Int × Int × Int × Int × Int → Option γ) (k : Int × Int → Option γ) (s0 s1 s6 s7 s8 : Int) : w1_long.l0.c (fun q => (k0 q).map f) (fun q => (k q).map f) s0 s1 s6 s7 s8 = (w1_long.l0.c k0 k s0 s1 s6 s7 s8).map f := by
  unfold w1_long.l0.c; apply w1_long.l0.p0
theorem w1_long.p {γ δ : Type} (f : γ → δ) (k0 : Int × Int × Int × Int × Int → Option γ) (k : Int × Int → Option γ) (a b : Int) : w1_long.c (fun q => (k0 q).map f) (fun q => (k q).map f) a b = (w1_long.c k0 k a b).map f := by
  unfold w1_long.c; (repeat' (first | (apply pm f) | (exact rfl)))
theorem w1_long.S0.ok (N : Nat) : LoopsOK P G (w1_long.H0 ).sums w1_long.B0 := by
  refine LoopsOK_code fun i hi F hF => ?_
  have hlen : (loopsOf w1_long.B0).length = 0 := by kernel_rfl
  rw [hlen] at hi
  omega
theorem w1_long.S0.snd (N : Nat) : SoundL P G w1_long.B0 (w1_long.S0 N) := sumN_sound C.mixed C.names w1_Abs.t (w1_long.S0.ok N) N
theorem w1_long.l0.r (F0 G0 : LSum) (s0 s1 s6 s7 s8 : Int) : ex P G (tab L_w1_Abs) (w1_long.H0 ) 60 w1_long.B0 (w1_long.e0 (s0, s1, s6, s7, s8)) (roundK (w1_long.H0 ) w1_long.B0 G0 (w1_long.K0 F0)) = w1_long.l0.c (fun q => G0.run (w1_long.e0 q) (w1_long.K0 F0)) (fun q => some (w1_long.val q)) s0 s1 s6 s7 s8 := by kernel_rfl
theorem w1_long.r (F0 : LSum) (a b : Int) : runF P G (tab L_w1_Abs) (w1_long.H F0) 60 Tryz.f197 [.int .u64 a, .int .u64 b] = w1_long.c (fun q => F0.run (w1_long.e0 q) (w1_long.K0 F0)) (fun q => some (w1_long.val q)) a b := by kernel_rfl
theorem w1_long.L0.ok (N : Nat) (F0 : LSum)   : ∀ m q, (sumN P G (tab L_w1_Abs) (w1_long.H0 ) 60 w1_long.B0 m).run (w1_long.e0 q) (w1_long.K0 F0) = (w1_long.L0 N  m q).map w1_long.val
  | 0, q => rfl
  | m + 1, q => by
    have ih := w1_long.L0.ok N F0   m
    refine (sumN_run (n := m) rfl).trans ((w1_long.l0.r F0 (sumN P G (tab L_w1_Abs) (w1_long.H0 ) 60 w1_long.B0 m) (q).1 (q).2.1 (q).2.2.1 (q).2.2.2.1 (q).2.2.2.2).trans ?_)
    refine Eq.trans ?_ (w1_long.l0.p w1_long.val (w1_long.L0 N m) some (q).1 (q).2.1 (q).2.2.1 (q).2.2.2.1 (q).2.2.2.2)
    have e0 : (fun q => (sumN P G (tab L_w1_Abs) (w1_long.H0 ) 60 w1_long.B0 m).run (w1_long.e0 q) (w1_long.K0 F0)) = (fun q => ((w1_long.L0 N m) q).map w1_long.val) := funext ih
    rw [e0]; rfl
theorem w1_long.q (N : Nat) (a b : Int) : runF P G (tab L_w1_Abs) (w1_long.H (w1_long.S0 N)) 60 Tryz.f197 [.int .u64 a, .int .u64 b] = (w1_long.o N a b).map w1_long.val := by
  have hk0 := w1_long.L0.ok N (w1_long.S0 N)   N
  refine (w1_long.r (w1_long.S0 N) a b).trans ?_
  refine Eq.trans ?_ (w1_long.p w1_long.val (w1_long.L0 N  N) some a b)
  have e0 : (fun q => (w1_long.S0 N).run (w1_long.e0 q) (w1_long.K0 (w1_long.S0 N))) = (fun q => ((w1_long.L0 N  N) q).map w1_long.val) := funext hk0
  rw [e0]; rfl
theorem w1_long.lok (N : Nat) : LoopsOK P G (w1_long.H (w1_long.S0 N)).sums (fbody Tryz.f197) := by
  refine LoopsOK_code fun i hi F hF => ?_
  have hlen : (loopsOf (fbody Tryz.f197)).length = 1 := by kernel_rfl
  rw [hlen] at hi
  match i, hi with
  | 0, _ => exact soundAt (B' := w1_long.B0) (by kernel_rfl) (by kernel_rfl) (w1_long.S0.snd N) hF
  | _ + 1, h => omega
def w1_long (a b : Int) : Int × Int := hide ((w1_long.o (67) a b).getD (0, 0))
def w1_long.g (a b : Int) : Bool := hide (w1_long.o (67) a b).isSome
theorem w1_long.s (a b : Int) (h : w1_long.g a b = true) : w1_long.o (67) a b = some (w1_long a b) := by
  unfold w1_long.g at h; unfold w1_long; simp only [hide_eq] at h ⊢; revert h; cases w1_long.o (67) a b <;> simp
def w1_long.F : FV := mkF (cP (cI .u64) (cP (cI .u64) cU)) (fun | (a, b, ()) => w1_long.g a b) (fun | (a, b, ()) => w1_long.val (w1_long a b))
def L_w1_long : TL := (197, w1_long.F) :: L_w1_Abs
theorem w1_long.t : TabOK P G (tab L_w1_long) :=
  TabOK_mkH C w1_Abs.t Tryz.func197 (by kernel_rfl) (fun | (_, (_, ())) => w1_long.H (w1_long.S0 (67))) (by rintro ⟨a, b, ⟨⟩⟩; exact w1_long.lok _) 60 (by
    rintro ⟨a, b, ⟨⟩⟩ h
    exact (w1_long.q (67) a b).trans (congrArg (Option.map w1_long.val) (w1_long.s a b h)))
def w1_Full.c0 {γ : Type} (k : Int × Int → γ) (a b t1 t2 t3 t4 t5 t6 t7 t8 t9 t10 t11 t12 t13 t14 t15 : Int) : γ := k (t13, t15)
def w1_Full.c {γ : Type} (k : Int × Int → γ) (a b : Int) : γ := let t1 := IntKind.u64.wrap (a.tdiv 4294967296); let t2 := IntKind.u64.wrap (b.tdiv 4294967296); let t3 := IntKind.u64.wrap (t1 * t2); let t4 := IntKind.u64.wrap (t1 * b.tmod 4294967296); let t5 := IntKind.u64.wrap (a.tmod 4294967296 * b.tmod 4294967296); let t6 := IntKind.u64.wrap (t5.tdiv 4294967296); let t7 := IntKind.u64.wrap (t4 + t6); let t8 := IntKind.u64.wrap (t7.tdiv 4294967296); let t9 := IntKind.u64.wrap (t3 + t8); let t10 := IntKind.u64.wrap (a.tmod 4294967296 * t2); let t11 := IntKind.u64.wrap (t10 + t7.tmod 4294967296); let t12 := IntKind.u64.wrap (t11.tdiv 4294967296); let t13 := IntKind.u64.wrap (t9 + t12); let t14 := IntKind.u64.wrap (t11.tmod 4294967296 * 4294967296); let t15 := IntKind.u64.wrap (t14 + t5.tmod 4294967296); w1_Full.c0 k a b t1 t2 t3 t4 t5 t6 t7 t8 t9 t10 t11 t12 t13 t14 t15
def w1_Full (a b : Int) : Int × Int := w1_Full.c id a b
def w1_Full.F : FV := mkF (cP (cI .u64) (cP (cI .u64) cU)) (fun _ => true) (fun | (a, b, ()) => v1 (w1_Full a b))
def L_w1_Full : TL := (262, w1_Full.F) :: L_w1_long
theorem w1_Full.p0 {γ : Type} (k : Int × Int → γ) (a b t1 t2 t3 t4 t5 t6 t7 t8 t9 t10 t11 t12 t13 t14 t15) : w1_Full.c0 k a b t1 t2 t3 t4 t5 t6 t7 t8 t9 t10 t11 t12 t13 t14 t15 = k (w1_Full.c0 id a b t1 t2 t3 t4 t5 t6 t7 t8 t9 t10 t11 t12 t13 t14 t15) := by
  unfold w1_Full.c0; (repeat' (first | (apply pc k) | (exact rfl)))
theorem w1_Full.p {γ : Type} (k : Int × Int → γ) (a b : Int) : w1_Full.c k a b = k (w1_Full a b) := by
  unfold w1_Full w1_Full.c; apply w1_Full.p0
theorem w1_Full.r (a b : Int) : runF P G (tab L_w1_long) { merge := true, glue := true } 60 Tryz.f262 [.int .u64 a, .int .u64 b] = w1_Full.c (fun q => some (v1 q)) a b := by kernel_rfl
theorem w1_Full.t : TabOK P G (tab L_w1_Full) :=
  TabOK_mkL C w1_long.t Tryz.func262 (by kernel_rfl) { merge := true, glue := true } (fun c _ => LoopsOK_nil c) 60 (by
    rintro ⟨a, b, ⟨⟩⟩ h
    exact (w1_Full.r a b).trans (w1_Full.p (fun q => some (.tuple #[.int .u64 (q).1, .int .u64 (q).2] : Value)) a b))
def w1_Wide.c0 {γ : Type} (n : γ) (k : Int × Int → γ) (a b : Int) (t1 t2 : Bool) (t3 t4 t5 : Int) (t6 : Int × Int) (t7 t8 t9 t10 t11 t12 : Int) : γ := bif t1
then bif t2
then k (t11, t12)
else n
else n
def w1_Wide.c {γ : Type} (n : γ) (k : Int × Int → γ) (a b : Int) : γ := let t1 := w1_Abs.ok a; let t2 := w1_Abs.ok b; let t3 := if IntKind.u64.signed = true then -1 else IntKind.u64.max; let t4 := w1_Abs a; let t5 := w1_Abs b; let t6 := w1_Full t4 t5; let t7 := IntKind.u64.wrap (xorI IntKind.u64 t3 t6.2 + 1); let t8 := IntKind.u64.wrap (xorI IntKind.u64 t3 t6.1 + 1); let t9 := bif t7 == 0 then t8 else xorI IntKind.u64 t3 t6.1; let t10 := bif !decide (a < 0) == decide (b < 0) then t9 else t6.1; let t11 := IntKind.i64.wrap t10; let t12 := bif !decide (a < 0) == decide (b < 0) then t7 else t6.2; w1_Wide.c0 n k a b t1 t2 t3 t4 t5 t6 t7 t8 t9 t10 t11 t12
def w1_Wide.ok (a b : Int) : Bool := w1_Wide.c false (fun _ => true) a b
def w1_Wide (a b : Int) : Int × Int := w1_Wide.c (0, 0) id a b
def w1_Wide.F : FV := mkF (cP (cI .i64) (cP (cI .i64) cU)) (fun | (a, b, ()) => w1_Wide.ok a b) (fun | (a, b, ()) => v3 (w1_Wide a b))
def L_w1_Wide : TL := (242, w1_Wide.F) :: L_w1_Full
theorem w1_Wide.p0 {γ : Type} (k : Int × Int → γ) (a b t1 t2 t3 t4 t5 t6 t7 t8 t9 t10 t11 t12) : w1_Wide.c0 false (fun _ => true) a b t1 t2 t3 t4 t5 t6 t7 t8 t9 t10 t11 t12 = true → w1_Wide.c0 none (fun q => some (k q)) a b t1 t2 t3 t4 t5 t6 t7 t8 t9 t10 t11 t12 = some (k (w1_Wide.c0 (0, 0) id a b t1 t2 t3 t4 t5 t6 t7 t8 t9 t10 t11 t12)) := by
  unfold w1_Wide.c0; (repeat' (first | (apply pn k) | (exact pn_none _ _) | (exact pn_leaf k _)))
theorem w1_Wide.p {γ : Type} (k : Int × Int → γ) (a b : Int) (h : w1_Wide.ok a b = true) : w1_Wide.c none (fun q => some (k q)) a b = some (k (w1_Wide a b)) := by
  revert h; unfold w1_Wide.ok w1_Wide w1_Wide.c; apply w1_Wide.p0
theorem w1_Wide.r (a b : Int) : runF P G (tab L_w1_Full) { merge := true, glue := true } 60 Tryz.f242 [.int .i64 a, .int .i64 b] = w1_Wide.c none (fun q => some (v3 q)) a b := by kernel_rfl
theorem w1_Wide.t : TabOK P G (tab L_w1_Wide) :=
  TabOK_mkL C w1_Full.t Tryz.func242 (by kernel_rfl) { merge := true, glue := true } (fun c _ => LoopsOK_nil c) 60 (by
    rintro ⟨a, b, ⟨⟩⟩ h
    exact (w1_Wide.r a b).trans (w1_Wide.p v3 a b h))
def w1_Gcd.val (q : Int) : Value := .int .u64 (q)
def w1_Gcd.h : List (Nat × List Nat × Nat) := [(1, [0, 1], 0)]
def w1_Gcd.e0 (q : Int × Int) : St := { tmps := [.val (.int .u64 (q).1), .val (.int .u64 (q).2), .unk, .unk, .unk, .unk, .unk, .unk, .unk, .unk, .unk, .unk, .unk, .unk, .unk, .unk, .unk, .unk], blks := [], saved := [] }
noncomputable def w1_Gcd.B0 : Code := loopAt [1, 0, 0] (fbody Tryz.f189)
noncomputable def w1_Gcd.H (F0 : LSum) : Heads := { heads := w1_Gcd.h, merge := true, sums := [(1, F0)] }
noncomputable def w1_Gcd.H0  : Heads := { heads := w1_Gcd.h, merge := true, sums := [] }
noncomputable def w1_Gcd.K0 (F0 : LSum) : Xt → St → Option Value := kAt P G (tab L_w1_Wide) (w1_Gcd.H F0) [1, 0, 0] 60 (fbody Tryz.f189) (retK P G Tryz.f189)
def w1_Gcd.l0.c0 {γ : Type} (k0 : Int × Int → Option γ) (k : Int → Option γ) (s0 s1 : Int) (t1 : Bool) (t2 : Int × Int) : Option γ := bif s1 != 0
then bif t1
then k0 (s1, t2.2)
else none
else k (s0)
def w1_Gcd.l0.c {γ : Type} (k0 : Int × Int → Option γ) (k : Int → Option γ) (s0 s1 : Int) : Option γ := let t1 := w1_long.g s0 s1; let t2 := w1_long s0 s1; w1_Gcd.l0.c0 k0 k s0 s1 t1 t2
def w1_Gcd.c {γ : Type} (k0 : Int × Int → Option γ) (k : Int → Option γ) (a b : Int) : Option γ := k0 (a, b)
def w1_Gcd.L0 (N : Nat)  : Nat → Int × Int → Option (Int)
  | 0, _ => none
  | m + 1, q => w1_Gcd.l0.c (w1_Gcd.L0 N m) some (q).1 (q).2
def w1_Gcd.o (N : Nat) (a b : Int) : Option (Int) := w1_Gcd.c (w1_Gcd.L0 N  N) some a b
noncomputable def w1_Gcd.S0 (N : Nat) : LSum := sumN P G (tab L_w1_Wide) (w1_Gcd.H0 ) 60 w1_Gcd.B0 N
theorem w1_Gcd.l0.p0 {γ δ : Type} (f : γ → δ) (k0 : Int × Int → Option γ) (k : Int → Option γ) (s0 s1 t1 t2) : w1_Gcd.l0.c0 (fun q => (k0 q).map f) (fun q => (k q).map f) s0 s1 t1 t2 = (w1_Gcd.l0.c0 k0 k s0 s1 t1 t2).map f := by
  unfold w1_Gcd.l0.c0; (repeat' (first | (apply pm f) | (exact rfl)))
theorem w1_Gcd.l0.p {γ δ : Type} (f : γ → δ) (k0 : Int × Int → Option γ) (k : Int → Option γ) (s0 s1 : Int) : w1_Gcd.l0.c (fun q => (k0 q).map f) (fun q => (k q).map f) s0 s1 = (w1_Gcd.l0.c k0 k s0 s1).map f := by
  unfold w1_Gcd.l0.c; apply w1_Gcd.l0.p0
theorem w1_Gcd.p {γ δ : Type} (f : γ → δ) (k0 : Int × Int → Option γ) (k : Int → Option γ) (a b : Int) : w1_Gcd.c (fun q => (k0 q).map f) (fun q => (k q).map f) a b = (w1_Gcd.c k0 k a b).map f := by
  unfold w1_Gcd.c; (repeat' (first | (apply pm f) | (exact rfl)))
theorem w1_Gcd.S0.ok (N : Nat) : LoopsOK P G (w1_Gcd.H0 ).sums w1_Gcd.B0 := by
  refine LoopsOK_code fun i hi F hF => ?_
  have hlen : (loopsOf w1_Gcd.B0).length = 0 := by kernel_rfl
  rw [hlen] at hi
  omega
theorem w1_Gcd.S0.snd (N : Nat) : SoundL P G w1_Gcd.B0 (w1_Gcd.S0 N) := sumN_sound C.mixed C.names w1_Wide.t (w1_Gcd.S0.ok N) N
theorem w1_Gcd.l0.r (F0 G0 : LSum) (s0 s1 : Int) : ex P G (tab L_w1_Wide) (w1_Gcd.H0 ) 60 w1_Gcd.B0 (w1_Gcd.e0 (s0, s1)) (roundK (w1_Gcd.H0 ) w1_Gcd.B0 G0 (w1_Gcd.K0 F0)) = w1_Gcd.l0.c (fun q => G0.run (w1_Gcd.e0 q) (w1_Gcd.K0 F0)) (fun q => some (w1_Gcd.val q)) s0 s1 := by kernel_rfl
theorem w1_Gcd.r (F0 : LSum) (a b : Int) : runF P G (tab L_w1_Wide) (w1_Gcd.H F0) 60 Tryz.f189 [.int .u64 a, .int .u64 b] = w1_Gcd.c (fun q => F0.run (w1_Gcd.e0 q) (w1_Gcd.K0 F0)) (fun q => some (w1_Gcd.val q)) a b := by kernel_rfl
theorem w1_Gcd.L0.ok (N : Nat) (F0 : LSum)   : ∀ m q, (sumN P G (tab L_w1_Wide) (w1_Gcd.H0 ) 60 w1_Gcd.B0 m).run (w1_Gcd.e0 q) (w1_Gcd.K0 F0) = (w1_Gcd.L0 N  m q).map w1_Gcd.val
  | 0, q => rfl
  | m + 1, q => by
    have ih := w1_Gcd.L0.ok N F0   m
    refine (sumN_run (n := m) rfl).trans ((w1_Gcd.l0.r F0 (sumN P G (tab L_w1_Wide) (w1_Gcd.H0 ) 60 w1_Gcd.B0 m) (q).1 (q).2).trans ?_)
    refine Eq.trans ?_ (w1_Gcd.l0.p w1_Gcd.val (w1_Gcd.L0 N m) some (q).1 (q).2)
    have e0 : (fun q => (sumN P G (tab L_w1_Wide) (w1_Gcd.H0 ) 60 w1_Gcd.B0 m).run (w1_Gcd.e0 q) (w1_Gcd.K0 F0)) = (fun q => ((w1_Gcd.L0 N m) q).map w1_Gcd.val) := funext ih
    rw [e0]; rfl
theorem w1_Gcd.q (N : Nat) (a b : Int) : runF P G (tab L_w1_Wide) (w1_Gcd.H (w1_Gcd.S0 N)) 60 Tryz.f189 [.int .u64 a, .int .u64 b] = (w1_Gcd.o N a b).map w1_Gcd.val := by
  have hk0 := w1_Gcd.L0.ok N (w1_Gcd.S0 N)   N
  refine (w1_Gcd.r (w1_Gcd.S0 N) a b).trans ?_
  refine Eq.trans ?_ (w1_Gcd.p w1_Gcd.val (w1_Gcd.L0 N  N) some a b)
  have e0 : (fun q => (w1_Gcd.S0 N).run (w1_Gcd.e0 q) (w1_Gcd.K0 (w1_Gcd.S0 N))) = (fun q => ((w1_Gcd.L0 N  N) q).map w1_Gcd.val) := funext hk0
  rw [e0]; rfl
theorem w1_Gcd.lok (N : Nat) : LoopsOK P G (w1_Gcd.H (w1_Gcd.S0 N)).sums (fbody Tryz.f189) := by
  refine LoopsOK_code fun i hi F hF => ?_
  have hlen : (loopsOf (fbody Tryz.f189)).length = 1 := by kernel_rfl
  rw [hlen] at hi
  match i, hi with
  | 0, _ => exact soundAt (B' := w1_Gcd.B0) (by kernel_rfl) (by kernel_rfl) (w1_Gcd.S0.snd N) hF
  | _ + 1, h => omega
def w1_Gcd (a b : Int) : Int := hide ((w1_Gcd.o (b.toNat + 2) a b).getD (0))
def w1_Gcd.g (a b : Int) : Bool := hide (w1_Gcd.o (b.toNat + 2) a b).isSome
theorem w1_Gcd.s (a b : Int) (h : w1_Gcd.g a b = true) : w1_Gcd.o (b.toNat + 2) a b = some (w1_Gcd a b) := by
  unfold w1_Gcd.g at h; unfold w1_Gcd; simp only [hide_eq] at h ⊢; revert h; cases w1_Gcd.o (b.toNat + 2) a b <;> simp
def w1_Gcd.F : FV := mkF (cP (cI .u64) (cP (cI .u64) cU)) (fun | (a, b, ()) => w1_Gcd.g a b) (fun | (a, b, ()) => w1_Gcd.val (w1_Gcd a b))
def L_w1_Gcd : TL := (189, w1_Gcd.F) :: L_w1_Wide
theorem w1_Gcd.t : TabOK P G (tab L_w1_Gcd) :=
  TabOK_mkH C w1_Wide.t Tryz.func189 (by kernel_rfl) (fun | (_, (b, ())) => w1_Gcd.H (w1_Gcd.S0 (b.toNat + 2))) (by rintro ⟨a, b, ⟨⟩⟩; exact w1_Gcd.lok _) 60 (by
    rintro ⟨a, b, ⟨⟩⟩ h
    exact (w1_Gcd.q (b.toNat + 2) a b).trans (congrArg (Option.map w1_Gcd.val) (w1_Gcd.s a b h)))
def w1_Mod.c0 {γ : Type} (n : γ) (k : Int → γ) (a b t1 : Int) (t2 : Bool) (t3 : Int) (t4 : Bool) (t5 : Int × Int) (t6 : Bool) (t7 : Int) : γ := bif b == 0
then k (t1)
else bif t2
then bif t4
then bif t6
then k (t7)
else k (t5.2)
else n
else n
def w1_Mod.c {γ : Type} (n : γ) (k : Int → γ) (a b : Int) : γ := let t1 := IntKind.u64.wrap a; let t2 := w1_Abs.ok a; let t3 := w1_Abs a; let t4 := w1_long.g t3 b; let t5 := w1_long t3 b; let t6 := bif decide (a < 0) then decide (t5.2 > 0) else false; let t7 := IntKind.u64.wrap (b - t5.2); w1_Mod.c0 n k a b t1 t2 t3 t4 t5 t6 t7
def w1_Mod.ok (a b : Int) : Bool := w1_Mod.c false (fun _ => true) a b
def w1_Mod (a b : Int) : Int := w1_Mod.c (0) id a b
def w1_Mod.F : FV := mkF (cP (cI .i64) (cP (cI .u64) cU)) (fun | (a, b, ()) => w1_Mod.ok a b) (fun | (a, b, ()) => .int .u64 (w1_Mod a b))
def L_w1_Mod : TL := (190, w1_Mod.F) :: L_w1_Gcd
theorem w1_Mod.p0 {γ : Type} (k : Int → γ) (a b t1 t2 t3 t4 t5 t6 t7) : w1_Mod.c0 false (fun _ => true) a b t1 t2 t3 t4 t5 t6 t7 = true → w1_Mod.c0 none (fun q => some (k q)) a b t1 t2 t3 t4 t5 t6 t7 = some (k (w1_Mod.c0 (0) id a b t1 t2 t3 t4 t5 t6 t7)) := by
  unfold w1_Mod.c0; (repeat' (first | (apply pn k) | (exact pn_none _ _) | (exact pn_leaf k _)))
theorem w1_Mod.p {γ : Type} (k : Int → γ) (a b : Int) (h : w1_Mod.ok a b = true) : w1_Mod.c none (fun q => some (k q)) a b = some (k (w1_Mod a b)) := by
  revert h; unfold w1_Mod.ok w1_Mod w1_Mod.c; apply w1_Mod.p0
theorem w1_Mod.r (a b : Int) : runF P G (tab L_w1_Gcd) { merge := true, glue := true } 60 Tryz.f190 [.int .i64 a, .int .u64 b] = w1_Mod.c none (fun q => some (.int .u64 (q) : Value)) a b := by kernel_rfl
theorem w1_Mod.t : TabOK P G (tab L_w1_Mod) :=
  TabOK_mkL C w1_Gcd.t Tryz.func190 (by kernel_rfl) { merge := true, glue := true } (fun c _ => LoopsOK_nil c) 60 (by
    rintro ⟨a, b, ⟨⟩⟩ h
    exact (w1_Mod.r a b).trans (w1_Mod.p (fun q => (.int .u64 (q) : Value)) a b h))
end
end Go.Proofs.YtonpbbhlmapbdaaGreatDoor.V
