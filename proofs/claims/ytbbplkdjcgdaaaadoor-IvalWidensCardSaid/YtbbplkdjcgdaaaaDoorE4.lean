/- What the functions of this seat compute, told by evaluation of their code. Conditions: none. -/
import Derived.Test.YtbbplkdjcgdaaaaDoorE3
set_option linter.unusedVariables false
set_option linter.unusedSimpArgs false
namespace Go.Proofs.YtbbplkdjcgdaaaaDoor.V
open Go Go.Wk

def ref_Times.val (q : Int × Int) : Value := .agg #[.int .i64 (q).1, .int .u64 (q).2]
def ref_Times.h : List (Nat × List Nat × Nat) := [(5, [4, 5, 6, 7, 8], 3)]
def ref_Times.e0 (q : Int × Int × Int × Int × Int × Int × Int × Int) : St := { tmps := [.unk, .unk, .unk, .unk, .ptr 0 0, .ptr 1 0, .ptr 2 0, .val (.int .u64 (q).1), .val (.int .i64 (q).2.1), .unk, .unk, .unk, .unk, .unk, .unk, .unk, .unk, .unk, .unk, .unk, .unk, .unk, .unk, .unk, .unk, .unk, .unk, .unk, .unk, .unk, .unk, .unk, .unk, .unk, .unk], blks := [some ⟨[.val (.int .i64 (q).2.2.1), .val (.int .u64 (q).2.2.2.1)], 52⟩, some ⟨[.val (.int .i64 (q).2.2.2.2.1), .val (.int .u64 (q).2.2.2.2.2.1)], 52⟩, some ⟨[.val (.int .i64 (q).2.2.2.2.2.2.1), .val (.int .u64 (q).2.2.2.2.2.2.2)], 52⟩], saved := [] }
noncomputable def ref_Times.B0 : Code := loopAt [1, 1, 1, 1, 0, 1, 0] (fbody Tryd.f54)
noncomputable def ref_Times.H (F0 : LSum) : Heads := { heads := ref_Times.h, merge := true, sums := [(5, F0)] }
noncomputable def ref_Times.H0  : Heads := { heads := ref_Times.h, merge := true, sums := [] }
noncomputable def ref_Times.K0 (F0 : LSum) : Xt → St → Option Value := kAt P G (tab L_ref_far) (ref_Times.H F0) [1, 1, 1, 1, 0, 1, 0] 60 (fbody Tryd.f54) (retK P G Tryd.f54)
def ref_Times.l0.c0 {γ : Type} (k0 : Int × Int × Int × Int × Int × Int × Int × Int → Option γ) (k : Int × Int → Option γ) (s7 : Int) (s8 : Int) (b0_0 : Int) (b0_1 : Int) (b1_0 : Int) (b1_1 : Int) (b2_0 : Int) (b2_1 : Int) (t1 : Int) (t2 : Int × Int) (t3 : Int) (t4 : Int × Int) (t5 : Int × Int) (t6 : Int) (t7 : Int) (t8 : Int) (t9 : Int) : Option γ := bif decide (s8 < 64)
  then bif !decide (s8 < 0)
   then k0 (s7, t1, b0_0, b0_1, t2.fst, t2.snd, t7, t9)
   else none
  else k (b2_0, b2_1)
def ref_Times.l0.c {γ : Type} (k0 : Int × Int × Int × Int × Int × Int × Int × Int → Option γ) (k : Int × Int → Option γ) (s7 : Int) (s8 : Int) (b0_0 : Int) (b0_1 : Int) (b1_0 : Int) (b1_1 : Int) (b2_0 : Int) (b2_1 : Int) : Option γ := let t1 := IntKind.i64.wrap (s8 + 1); let t2 := ref_plus b1_0 b1_1 b1_0 b1_1; let t3 := IntKind.u64.wrap ↑(BitVec.ofInt IntKind.u64.bits (s7.fdiv (2 ^ min s8.toNat IntKind.u64.bits)) &&& BitVec.ofInt IntKind.u64.bits 1).toNat; let t4 := ref_minus b2_0 b2_1 b1_0 b1_1; let t5 := ref_plus b2_0 b2_1 b1_0 b1_1; let t6 := bif s8 == 63 then t4.fst else t5.fst; let t7 := bif t3 == 1 then t6 else b2_0; let t8 := bif s8 == 63 then t4.snd else t5.snd; let t9 := bif t3 == 1 then t8 else b2_1; ref_Times.l0.c0 k0 k s7 s8 b0_0 b0_1 b1_0 b1_1 b2_0 b2_1 t1 t2 t3 t4 t5 t6 t7 t8 t9
def ref_Times.c0 {γ : Type} (k0 : Int × Int × Int × Int × Int × Int × Int × Int → Option γ) (k : Int × Int → Option γ) (a : Int) (b : Int) (t1 : Int) (t2 : Int × Int) : Option γ := k0 (t1, 0, 0, 0, t2.fst, t2.snd, 0, 0)
def ref_Times.c {γ : Type} (k0 : Int × Int × Int × Int × Int × Int × Int × Int → Option γ) (k : Int × Int → Option γ) (a : Int) (b : Int) : Option γ := let t1 := IntKind.u64.wrap b; let t2 := ref_Of a; ref_Times.c0 k0 k a b t1 t2
def ref_Times.L0 (N : Nat)  : Nat → Int × Int × Int × Int × Int × Int × Int × Int → Option (Int × Int)
  | 0, _ => none
  | m + 1, q => ref_Times.l0.c (ref_Times.L0 N m) some (q).1 (q).2.1 (q).2.2.1 (q).2.2.2.1 (q).2.2.2.2.1 (q).2.2.2.2.2.1 (q).2.2.2.2.2.2.1 (q).2.2.2.2.2.2.2
def ref_Times.o (N : Nat) (a : Int) (b : Int) : Option (Int × Int) := ref_Times.c (ref_Times.L0 N  N) some a b
noncomputable def ref_Times.S0 (N : Nat) : LSum := sumN P G (tab L_ref_far) (ref_Times.H0 ) 60 ref_Times.B0 N
theorem ref_Times.l0.p0 {γ δ : Type} (f : γ → δ) (k0 : Int × Int × Int × Int × Int × Int × Int × Int → Option γ) (k : Int × Int → Option γ) (s7 : Int) (s8 : Int) (b0_0 : Int) (b0_1 : Int) (b1_0 : Int) (b1_1 : Int) (b2_0 : Int) (b2_1 : Int) (t1 : Int) (t2 : Int × Int) (t3 : Int) (t4 : Int × Int) (t5 : Int × Int) (t6 : Int) (t7 : Int) (t8 : Int) (t9 : Int) : ref_Times.l0.c0 (fun q => (k0 q).map f) (fun q => (k q).map f) s7 s8 b0_0 b0_1 b1_0 b1_1 b2_0 b2_1 t1 t2 t3 t4 t5 t6 t7 t8 t9 = (ref_Times.l0.c0 k0 k s7 s8 b0_0 b0_1 b1_0 b1_1 b2_0 b2_1 t1 t2 t3 t4 t5 t6 t7 t8 t9).map f := by
  unfold ref_Times.l0.c0; (repeat' (first | (apply pm f) | (exact rfl)))
theorem ref_Times.l0.p {γ δ : Type} (f : γ → δ) (k0 : Int × Int × Int × Int × Int × Int × Int × Int → Option γ) (k : Int × Int → Option γ) (s7 : Int) (s8 : Int) (b0_0 : Int) (b0_1 : Int) (b1_0 : Int) (b1_1 : Int) (b2_0 : Int) (b2_1 : Int) : ref_Times.l0.c (fun q => (k0 q).map f) (fun q => (k q).map f) s7 s8 b0_0 b0_1 b1_0 b1_1 b2_0 b2_1 = (ref_Times.l0.c k0 k s7 s8 b0_0 b0_1 b1_0 b1_1 b2_0 b2_1).map f :=
  let t1 := IntKind.i64.wrap (s8 + 1); let t2 := ref_plus b1_0 b1_1 b1_0 b1_1; let t3 := IntKind.u64.wrap ↑(BitVec.ofInt IntKind.u64.bits (s7.fdiv (2 ^ min s8.toNat IntKind.u64.bits)) &&& BitVec.ofInt IntKind.u64.bits 1).toNat; let t4 := ref_minus b2_0 b2_1 b1_0 b1_1; let t5 := ref_plus b2_0 b2_1 b1_0 b1_1; let t6 := bif s8 == 63 then t4.fst else t5.fst; let t7 := bif t3 == 1 then t6 else b2_0; let t8 := bif s8 == 63 then t4.snd else t5.snd; let t9 := bif t3 == 1 then t8 else b2_1; ref_Times.l0.p0 f k0 k s7 s8 b0_0 b0_1 b1_0 b1_1 b2_0 b2_1 t1 t2 t3 t4 t5 t6 t7 t8 t9
theorem ref_Times.p0 {γ δ : Type} (f : γ → δ) (k0 : Int × Int × Int × Int × Int × Int × Int × Int → Option γ) (k : Int × Int → Option γ) (a : Int) (b : Int) (t1 : Int) (t2 : Int × Int) : ref_Times.c0 (fun q => (k0 q).map f) (fun q => (k q).map f) a b t1 t2 = (ref_Times.c0 k0 k a b t1 t2).map f := by
  unfold ref_Times.c0; (repeat' (first | (apply pm f) | (exact rfl)))
theorem ref_Times.p {γ δ : Type} (f : γ → δ) (k0 : Int × Int × Int × Int × Int × Int × Int × Int → Option γ) (k : Int × Int → Option γ) (a : Int) (b : Int) : ref_Times.c (fun q => (k0 q).map f) (fun q => (k q).map f) a b = (ref_Times.c k0 k a b).map f :=
  let t1 := IntKind.u64.wrap b; let t2 := ref_Of a; ref_Times.p0 f k0 k a b t1 t2
theorem ref_Times.S0.ok (N : Nat) : LoopsOK P G (ref_Times.H0 ).sums ref_Times.B0 := by
  refine LoopsOK_code fun i hi F hF => ?_
  have hlen : (loopsOf ref_Times.B0).length = 0 := by kernel_rfl
  rw [hlen] at hi
  omega

theorem ref_Times.S0.snd (N : Nat) : SoundL P G ref_Times.B0 (ref_Times.S0 N) := sumN_sound C.mixed C.names ref_far.t (ref_Times.S0.ok N) N
theorem ref_Times.l0.r (F0 G0 : LSum) (s7 : Int) (s8 : Int) (b0_0 : Int) (b0_1 : Int) (b1_0 : Int) (b1_1 : Int) (b2_0 : Int) (b2_1 : Int) : ex P G (tab L_ref_far) (ref_Times.H0 ) 60 ref_Times.B0 (ref_Times.e0 (s7, s8, b0_0, b0_1, b1_0, b1_1, b2_0, b2_1)) (roundK (ref_Times.H0 ) ref_Times.B0 G0 (ref_Times.K0 F0)) = ref_Times.l0.c (fun q => G0.run (ref_Times.e0 q) (ref_Times.K0 F0)) (fun q => some (ref_Times.val q)) s7 s8 b0_0 b0_1 b1_0 b1_1 b2_0 b2_1 := by kernel_rfl
theorem ref_Times.r (F0 : LSum) (a : Int) (b : Int) : runF P G (tab L_ref_far) (ref_Times.H F0) 60 Tryd.f54 [.int .i64 a, .int .i64 b] = ref_Times.c (fun q => F0.run (ref_Times.e0 q) (ref_Times.K0 F0)) (fun q => some (ref_Times.val q)) a b := by kernel_rfl
theorem ref_Times.L0.ok (N : Nat) (F0 : LSum)   : ∀ m q, (sumN P G (tab L_ref_far) (ref_Times.H0 ) 60 ref_Times.B0 m).run (ref_Times.e0 q) (ref_Times.K0 F0) = (ref_Times.L0 N  m q).map ref_Times.val
  | 0, q => rfl
  | m + 1, q => by
    have ih := ref_Times.L0.ok N F0   m
    refine (sumN_run (n := m) rfl).trans ((ref_Times.l0.r F0 (sumN P G (tab L_ref_far) (ref_Times.H0 ) 60 ref_Times.B0 m) (q).1 (q).2.1 (q).2.2.1 (q).2.2.2.1 (q).2.2.2.2.1 (q).2.2.2.2.2.1 (q).2.2.2.2.2.2.1 (q).2.2.2.2.2.2.2).trans ?_)
    refine Eq.trans ?_ (ref_Times.l0.p ref_Times.val (ref_Times.L0 N m) some (q).1 (q).2.1 (q).2.2.1 (q).2.2.2.1 (q).2.2.2.2.1 (q).2.2.2.2.2.1 (q).2.2.2.2.2.2.1 (q).2.2.2.2.2.2.2)
    have e0 : (fun q => (sumN P G (tab L_ref_far) (ref_Times.H0 ) 60 ref_Times.B0 m).run (ref_Times.e0 q) (ref_Times.K0 F0)) = (fun q => ((ref_Times.L0 N m) q).map ref_Times.val) := funext ih
    rw [e0]; rfl

theorem ref_Times.q (N : Nat) (a : Int) (b : Int) : runF P G (tab L_ref_far) (ref_Times.H (ref_Times.S0 N)) 60 Tryd.f54 [.int .i64 a, .int .i64 b] = (ref_Times.o N a b).map ref_Times.val := by
  have hk0 := ref_Times.L0.ok N (ref_Times.S0 N)   N
  refine (ref_Times.r (ref_Times.S0 N) a b).trans ?_
  refine Eq.trans ?_ (ref_Times.p ref_Times.val (ref_Times.L0 N  N) some a b)
  have e0 : (fun q => (ref_Times.S0 N).run (ref_Times.e0 q) (ref_Times.K0 (ref_Times.S0 N))) = (fun q => ((ref_Times.L0 N  N) q).map ref_Times.val) := funext hk0
  rw [e0]; rfl

theorem ref_Times.lok (N : Nat) : LoopsOK P G (ref_Times.H (ref_Times.S0 N)).sums (fbody Tryd.f54) := by
  refine LoopsOK_code fun i hi F hF => ?_
  have hlen : (loopsOf (fbody Tryd.f54)).length = 1 := by kernel_rfl
  rw [hlen] at hi
  match i, hi with
  | 0, _ => exact soundAt (B' := ref_Times.B0) (by kernel_rfl) (by kernel_rfl) (ref_Times.S0.snd N) hF
  | _ + 1, h => omega

theorem ref_Times.L0s (N : Nat) : ∀ (m : Nat) (q : Int × Int × Int × Int × Int × Int × Int × Int), m ≤ 64 → q.2.1 = 64 - (m : Int) → (ref_Times.L0 N (m + 1) q).isSome = true
  | 0, q, hm, h => by
    have h1 : decide (q.2.1 < 64) = false := by simp; omega
    simp only [ref_Times.L0, ref_Times.l0.c, ref_Times.l0.c0, h1, cond_false, Option.isSome_some]
  | m + 1, q, hm, h => by
    have h1 : decide (q.2.1 < 64) = true := by simp; omega
    have h2 : decide (q.2.1 < 0) = false := by simp; omega
    have h3 : IntKind.i64.wrap (q.2.1 + 1) = 64 - (m : Int) := wi_id (by omega) (by omega) |>.trans (by omega)
    have key : ∀ b1 b2 b3 b4 b5 b6 b7, (ref_Times.L0 N (m + 1) (b1, IntKind.i64.wrap (q.2.1 + 1), b2, b3, b4, b5, b6, b7)).isSome = true := fun _ _ _ _ _ _ _ => ref_Times.L0s N m _ (by omega) h3
    rw [ref_Times.L0]
    simp only [ref_Times.l0.c, ref_Times.l0.c0, h1, h2, cond_true, Bool.not_false]
    rw [Bool.cond_eq_ite, Bool.cond_eq_ite]
    split
    · split <;> exact key _ _ _ _ _ _ _
    · exact key _ _ _ _ _ _ _
theorem ref_Times.os (a b : Int) : (ref_Times.o 65 a b).isSome = true := by
  unfold ref_Times.o ref_Times.c ref_Times.c0; exact ref_Times.L0s 65 64 _ (by omega) rfl
def ref_Times (a : Int) (b : Int) : Int × Int := (ref_Times.o 65 a b).getD (0, 0)
def ref_Times.g (a : Int) (b : Int) : Bool := true
theorem ref_Times.s (a : Int) (b : Int) (h : ref_Times.g a b = true) : ref_Times.o 65 a b = some (ref_Times a b) := by
  have := ref_Times.os a b; unfold ref_Times; revert this; cases ref_Times.o 65 a b <;> simp
def ref_Times.F : FV := mkF (cP (cI .i64) (cP (cI .i64) cU)) (fun | (a, (b, ())) => ref_Times.g a b) (fun | (a, (b, ())) => ref_Times.val (ref_Times a b))
def L_ref_Times : TL := (54, ref_Times.F) :: L_ref_far
theorem ref_Times.t : TabOK P G (tab L_ref_Times) :=
  TabOK_mkH C ref_far.t Tryd.func54 (by kernel_rfl) (fun | (_, (_, ())) => ref_Times.H (ref_Times.S0 (65))) (by rintro ⟨a, ⟨b, ⟨⟩⟩⟩; exact ref_Times.lok _) 60 (by
    rintro ⟨a, ⟨b, ⟨⟩⟩⟩ h
    exact (ref_Times.q (65) a b).trans (congrArg (Option.map ref_Times.val) (ref_Times.s a b h)))

def ref_Mul.c0 {γ : Type} (k : Int × Int × Bool → γ) (a0 : Int) (a1 : Int) (b0 : Int) (b1 : Int) (t1 : Bool) (t2 : Bool) (t3 : Int × Int) (t4 : Int × Int) (t5 : Int × Int) (t6 : Int × Int) (t7 : Bool) (t8 : Int) (t9 : Int) (t10 : Bool) (t11 : Int) (t12 : Int) (t13 : Bool) (t14 : Int) (t15 : Int) (t16 : Bool) (t17 : Bool) (t18 : Int) (t19 : Int) (t20 : Bool) (t21 : Int) (t22 : Int) (t23 : Bool) (t24 : Int) (t25 : Int) (t26 : Bool) (t27 : Int) (t28 : Int) : γ := bif t1
  then k (ref_None.fst, ref_None.snd, true)
  else bif t2
   then k (ref_None.fst, ref_None.snd, true)
   else bif t16
    then bif t26
     then k (t27, t28, true)
     else bif a0 == a1
      then bif b0 == b1
       then k (t27, t27, false)
       else k (-9223372036854775808, 9223372036854775807, false)
      else k (-9223372036854775808, 9223372036854775807, false)
    else bif a0 == a1
     then bif b0 == b1
      then k (t27, t27, false)
      else k (-9223372036854775808, 9223372036854775807, false)
     else k (-9223372036854775808, 9223372036854775807, false)
def ref_Mul.c {γ : Type} (k : Int × Int × Bool → γ) (a0 : Int) (a1 : Int) (b0 : Int) (b1 : Int) : γ := let t1 := ref_Empty a0 a1; let t2 := ref_Empty b0 b1; let t3 := ref_Times a1 b1; let t4 := ref_Times a1 b0; let t5 := ref_Times a0 b1; let t6 := ref_Times a0 b0; let t7 := ref_less t5.fst t5.snd t6.fst t6.snd; let t8 := bif t7 then t5.fst else t6.fst; let t9 := bif t7 then t5.snd else t6.snd; let t10 := ref_less t4.fst t4.snd t8 t9; let t11 := bif t10 then t4.fst else t8; let t12 := bif t10 then t4.snd else t9; let t13 := ref_less t3.fst t3.snd t11 t12; let t14 := bif t13 then t3.fst else t11; let t15 := bif t13 then t3.snd else t12; let t16 := ref_Fits t14 t15; let t17 := ref_less t6.fst t6.snd t5.fst t5.snd; let t18 := bif t17 then t5.fst else t6.fst; let t19 := bif t17 then t5.snd else t6.snd; let t20 := ref_less t18 t19 t4.fst t4.snd; let t21 := bif t20 then t4.fst else t18; let t22 := bif t20 then t4.snd else t19; let t23 := ref_less t21 t22 t3.fst t3.snd; let t24 := bif t23 then t3.fst else t21; let t25 := bif t23 then t3.snd else t22; let t26 := ref_Fits t24 t25; let t27 := IntKind.i64.wrap t15; let t28 := IntKind.i64.wrap t25; ref_Mul.c0 k a0 a1 b0 b1 t1 t2 t3 t4 t5 t6 t7 t8 t9 t10 t11 t12 t13 t14 t15 t16 t17 t18 t19 t20 t21 t22 t23 t24 t25 t26 t27 t28
def ref_Mul (a0 : Int) (a1 : Int) (b0 : Int) (b1 : Int) : Int × Int × Bool := ref_Mul.c id a0 a1 b0 b1
def ref_Mul.F : FV := mkF (cP (cA (cP (cI .i64) (cP (cI .i64) cU))) (cP (cA (cP (cI .i64) (cP (cI .i64) cU))) cU)) (fun _ => true) (fun | ((a0, (a1, ())), ((b0, (b1, ())), ())) => .tuple #[.agg #[.int .i64 (ref_Mul a0 a1 b0 b1).1, .int .i64 (ref_Mul a0 a1 b0 b1).2.1], .bool (ref_Mul a0 a1 b0 b1).2.2])
def L_ref_Mul : TL := (26, ref_Mul.F) :: L_ref_Times
theorem ref_Mul.p0 {γ : Type} (k : Int × Int × Bool → γ) (a0 : Int) (a1 : Int) (b0 : Int) (b1 : Int) (t1 : Bool) (t2 : Bool) (t3 : Int × Int) (t4 : Int × Int) (t5 : Int × Int) (t6 : Int × Int) (t7 : Bool) (t8 : Int) (t9 : Int) (t10 : Bool) (t11 : Int) (t12 : Int) (t13 : Bool) (t14 : Int) (t15 : Int) (t16 : Bool) (t17 : Bool) (t18 : Int) (t19 : Int) (t20 : Bool) (t21 : Int) (t22 : Int) (t23 : Bool) (t24 : Int) (t25 : Int) (t26 : Bool) (t27 : Int) (t28 : Int) : ref_Mul.c0 k a0 a1 b0 b1 t1 t2 t3 t4 t5 t6 t7 t8 t9 t10 t11 t12 t13 t14 t15 t16 t17 t18 t19 t20 t21 t22 t23 t24 t25 t26 t27 t28 = k (ref_Mul.c0 id a0 a1 b0 b1 t1 t2 t3 t4 t5 t6 t7 t8 t9 t10 t11 t12 t13 t14 t15 t16 t17 t18 t19 t20 t21 t22 t23 t24 t25 t26 t27 t28) := by
  unfold ref_Mul.c0; (repeat' (first | (apply pc k) | (exact rfl)))
theorem ref_Mul.p {γ : Type} (k : Int × Int × Bool → γ) (a0 : Int) (a1 : Int) (b0 : Int) (b1 : Int) : ref_Mul.c k a0 a1 b0 b1 = k (ref_Mul a0 a1 b0 b1) :=
  let t1 := ref_Empty a0 a1; let t2 := ref_Empty b0 b1; let t3 := ref_Times a1 b1; let t4 := ref_Times a1 b0; let t5 := ref_Times a0 b1; let t6 := ref_Times a0 b0; let t7 := ref_less t5.fst t5.snd t6.fst t6.snd; let t8 := bif t7 then t5.fst else t6.fst; let t9 := bif t7 then t5.snd else t6.snd; let t10 := ref_less t4.fst t4.snd t8 t9; let t11 := bif t10 then t4.fst else t8; let t12 := bif t10 then t4.snd else t9; let t13 := ref_less t3.fst t3.snd t11 t12; let t14 := bif t13 then t3.fst else t11; let t15 := bif t13 then t3.snd else t12; let t16 := ref_Fits t14 t15; let t17 := ref_less t6.fst t6.snd t5.fst t5.snd; let t18 := bif t17 then t5.fst else t6.fst; let t19 := bif t17 then t5.snd else t6.snd; let t20 := ref_less t18 t19 t4.fst t4.snd; let t21 := bif t20 then t4.fst else t18; let t22 := bif t20 then t4.snd else t19; let t23 := ref_less t21 t22 t3.fst t3.snd; let t24 := bif t23 then t3.fst else t21; let t25 := bif t23 then t3.snd else t22; let t26 := ref_Fits t24 t25; let t27 := IntKind.i64.wrap t15; let t28 := IntKind.i64.wrap t25; ref_Mul.p0 k a0 a1 b0 b1 t1 t2 t3 t4 t5 t6 t7 t8 t9 t10 t11 t12 t13 t14 t15 t16 t17 t18 t19 t20 t21 t22 t23 t24 t25 t26 t27 t28
theorem ref_Mul.r (a0 : Int) (a1 : Int) (b0 : Int) (b1 : Int) : runF P G (tab L_ref_Times) { merge := true } 60 Tryd.f26 [.agg #[.int .i64 a0, .int .i64 a1], .agg #[.int .i64 b0, .int .i64 b1]] = ref_Mul.c (fun q => some (.tuple #[.agg #[.int .i64 (q).1, .int .i64 (q).2.1], .bool (q).2.2] : Value)) a0 a1 b0 b1 := by kernel_rfl
theorem ref_Mul.t : TabOK P G (tab L_ref_Mul) :=
  TabOK_mk C ref_Times.t Tryd.func26 (by kernel_rfl) true 60 (by
    rintro ⟨⟨a0, ⟨a1, ⟨⟩⟩⟩, ⟨⟨b0, ⟨b1, ⟨⟩⟩⟩, ⟨⟩⟩⟩ h
    exact (ref_Mul.r a0 a1 b0 b1).trans (ref_Mul.p (fun q => some (.tuple #[.agg #[.int .i64 (q).1, .int .i64 (q).2.1], .bool (q).2.2] : Value)) a0 a1 b0 b1))

def ref_corners.c0 {γ : Type} (n : γ) (k : Int × Int → γ) (a0 : Int) (a1 : Int) (b0 : Int) (b1 : Int) (t1 : Bool) (t2 : Bool) (t3 : Int) (t4 : Int × Int) (t5 : Int) (t6 : Int × Int) (t7 : Int) (t8 : Int × Int) (t9 : Int) (t10 : Int × Int) : γ := bif t1
  then k (ref_None.fst, ref_None.snd)
  else bif t2
   then k (ref_None.fst, ref_None.snd)
   else bif !decide (b0 = 0)
    then bif !decide (b0 = 0)
     then bif !decide (b1 = 0)
      then bif !decide (b1 = 0)
       then bif !decide (b0 = 0)
        then bif !decide (b0 = 0)
         then bif !decide (b1 = 0)
          then bif !decide (b1 = 0)
           then k (t10.fst, t10.snd)
           else n
          else n
         else n
        else n
       else n
      else n
     else n
    else n
def ref_corners.c {γ : Type} (n : γ) (k : Int × Int → γ) (a0 : Int) (a1 : Int) (b0 : Int) (b1 : Int) : γ := let t1 := ref_Empty a0 a1; let t2 := ref_Empty b0 b1; let t3 := IntKind.i64.wrap (a0.tdiv b0); let t4 := ref_Join ref_None.fst ref_None.snd t3 t3; let t5 := IntKind.i64.wrap (a0.tdiv b1); let t6 := ref_Join t4.fst t4.snd t5 t5; let t7 := IntKind.i64.wrap (a1.tdiv b0); let t8 := ref_Join t6.fst t6.snd t7 t7; let t9 := IntKind.i64.wrap (a1.tdiv b1); let t10 := ref_Join t8.fst t8.snd t9 t9; ref_corners.c0 n k a0 a1 b0 b1 t1 t2 t3 t4 t5 t6 t7 t8 t9 t10
def ref_corners.ok (a0 : Int) (a1 : Int) (b0 : Int) (b1 : Int) : Bool := ref_corners.c false (fun _ => true) a0 a1 b0 b1
def ref_corners (a0 : Int) (a1 : Int) (b0 : Int) (b1 : Int) : Int × Int := ref_corners.c (0, 0) id a0 a1 b0 b1
def ref_corners.F : FV := mkF (cP (cA (cP (cI .i64) (cP (cI .i64) cU))) (cP (cA (cP (cI .i64) (cP (cI .i64) cU))) cU)) (fun | ((a0, (a1, ())), ((b0, (b1, ())), ())) => ref_corners.ok a0 a1 b0 b1) (fun | ((a0, (a1, ())), ((b0, (b1, ())), ())) => .agg #[.int .i64 (ref_corners a0 a1 b0 b1).1, .int .i64 (ref_corners a0 a1 b0 b1).2])
def L_ref_corners : TL := (61, ref_corners.F) :: L_ref_Mul
theorem ref_corners.p0 {γ : Type} (k : Int × Int → γ) (a0 : Int) (a1 : Int) (b0 : Int) (b1 : Int) (t1 : Bool) (t2 : Bool) (t3 : Int) (t4 : Int × Int) (t5 : Int) (t6 : Int × Int) (t7 : Int) (t8 : Int × Int) (t9 : Int) (t10 : Int × Int) : ref_corners.c0 false (fun _ => true) a0 a1 b0 b1 t1 t2 t3 t4 t5 t6 t7 t8 t9 t10 = true → ref_corners.c0 none (fun q => some (k q)) a0 a1 b0 b1 t1 t2 t3 t4 t5 t6 t7 t8 t9 t10 = some (k (ref_corners.c0 (0, 0) id a0 a1 b0 b1 t1 t2 t3 t4 t5 t6 t7 t8 t9 t10)) := by
  unfold ref_corners.c0; (repeat' (first | (apply pn k) | (exact pn_none _ _) | (exact pn_leaf k _)))
theorem ref_corners.p {γ : Type} (k : Int × Int → γ) (a0 : Int) (a1 : Int) (b0 : Int) (b1 : Int) (h : ref_corners.ok a0 a1 b0 b1 = true) : ref_corners.c none (fun q => some (k q)) a0 a1 b0 b1 = some (k (ref_corners a0 a1 b0 b1)) :=
  let t1 := ref_Empty a0 a1; let t2 := ref_Empty b0 b1; let t3 := IntKind.i64.wrap (a0.tdiv b0); let t4 := ref_Join ref_None.fst ref_None.snd t3 t3; let t5 := IntKind.i64.wrap (a0.tdiv b1); let t6 := ref_Join t4.fst t4.snd t5 t5; let t7 := IntKind.i64.wrap (a1.tdiv b0); let t8 := ref_Join t6.fst t6.snd t7 t7; let t9 := IntKind.i64.wrap (a1.tdiv b1); let t10 := ref_Join t8.fst t8.snd t9 t9; ref_corners.p0 k a0 a1 b0 b1 t1 t2 t3 t4 t5 t6 t7 t8 t9 t10 h
theorem ref_corners.r (a0 : Int) (a1 : Int) (b0 : Int) (b1 : Int) : runF P G (tab L_ref_Mul) { merge := true } 60 Tryd.f61 [.agg #[.int .i64 a0, .int .i64 a1], .agg #[.int .i64 b0, .int .i64 b1]] = ref_corners.c none (fun q => some (.agg #[.int .i64 (q).1, .int .i64 (q).2] : Value)) a0 a1 b0 b1 := by kernel_rfl
theorem ref_corners.t : TabOK P G (tab L_ref_corners) :=
  TabOK_mk C ref_Mul.t Tryd.func61 (by kernel_rfl) true 60 (by
    rintro ⟨⟨a0, ⟨a1, ⟨⟩⟩⟩, ⟨⟨b0, ⟨b1, ⟨⟩⟩⟩, ⟨⟩⟩⟩ h
    exact (ref_corners.r a0 a1 b0 b1).trans (ref_corners.p (fun q => (.agg #[.int .i64 (q).1, .int .i64 (q).2] : Value)) a0 a1 b0 b1 h))

def ref_Div.c0 {γ : Type} (n : γ) (k : Int × Int × Bool → γ) (a0 : Int) (a1 : Int) (b0 : Int) (b1 : Int) (t1 : Bool) (t2 : Bool) (t3 : Int × Int) (t4 : Bool) (t5 : Bool) (t6 : Int × Int) (t7 : Bool) (t8 : Int × Int) (t9 : Int × Int) (t10 : Int × Int) (t11 : Bool) (t12 : Int × Int) (t13 : Bool) (t14 : Int × Int) (t15 : Bool) (t16 : Int × Int) (t17 : Int × Int) (t18 : Int × Int) (t19 : Int × Int) (t20 : Int × Int) : γ := bif t1
  then k (ref_None.fst, ref_None.snd, true)
  else bif t2
   then k (ref_None.fst, ref_None.snd, true)
   else bif t4
    then bif !t5
     then bif t7
      then k (t10.fst, t10.snd, true)
      else n
     else bif !t11
      then bif t7
       then k (t10.fst, t10.snd, true)
       else n
      else bif t13
       then bif t15
        then k (t20.fst, t20.snd, false)
        else n
       else n
    else n
def ref_Div.c {γ : Type} (n : γ) (k : Int × Int × Bool → γ) (a0 : Int) (a1 : Int) (b0 : Int) (b1 : Int) : γ := let t1 := ref_Empty a0 a1; let t2 := ref_Empty b0 b1; let t3 := ref_Meet b0 b1 1 9223372036854775807; let t4 := ref_corners.ok a0 a1 t3.fst t3.snd; let t5 := ref_Has a0 a1 (-9223372036854775808); let t6 := ref_Meet b0 b1 (-9223372036854775808) (-1); let t7 := ref_corners.ok a0 a1 t6.fst t6.snd; let t8 := ref_corners a0 a1 t3.fst t3.snd; let t9 := ref_corners a0 a1 t6.fst t6.snd; let t10 := ref_Join t8.fst t8.snd t9.fst t9.snd; let t11 := ref_Has t6.fst t6.snd (-1); let t12 := ref_Meet a0 a1 (-9223372036854775807) 9223372036854775807; let t13 := ref_corners.ok t12.fst t12.snd t6.fst t6.snd; let t14 := ref_Meet t6.fst t6.snd (-9223372036854775808) (-2); let t15 := ref_corners.ok (-9223372036854775808) (-9223372036854775808) t14.fst t14.snd; let t16 := ref_Join t8.fst t8.snd (-9223372036854775808) (-9223372036854775808); let t17 := ref_corners t12.fst t12.snd t6.fst t6.snd; let t18 := ref_Join t16.fst t16.snd t17.fst t17.snd; let t19 := ref_corners (-9223372036854775808) (-9223372036854775808) t14.fst t14.snd; let t20 := ref_Join t18.fst t18.snd t19.fst t19.snd; ref_Div.c0 n k a0 a1 b0 b1 t1 t2 t3 t4 t5 t6 t7 t8 t9 t10 t11 t12 t13 t14 t15 t16 t17 t18 t19 t20
def ref_Div.ok (a0 : Int) (a1 : Int) (b0 : Int) (b1 : Int) : Bool := ref_Div.c false (fun _ => true) a0 a1 b0 b1
def ref_Div (a0 : Int) (a1 : Int) (b0 : Int) (b1 : Int) : Int × Int × Bool := ref_Div.c (0, 0, false) id a0 a1 b0 b1
def ref_Div.F : FV := mkF (cP (cA (cP (cI .i64) (cP (cI .i64) cU))) (cP (cA (cP (cI .i64) (cP (cI .i64) cU))) cU)) (fun | ((a0, (a1, ())), ((b0, (b1, ())), ())) => ref_Div.ok a0 a1 b0 b1) (fun | ((a0, (a1, ())), ((b0, (b1, ())), ())) => .tuple #[.agg #[.int .i64 (ref_Div a0 a1 b0 b1).1, .int .i64 (ref_Div a0 a1 b0 b1).2.1], .bool (ref_Div a0 a1 b0 b1).2.2])
def L_ref_Div : TL := (28, ref_Div.F) :: L_ref_corners
theorem ref_Div.p0 {γ : Type} (k : Int × Int × Bool → γ) (a0 : Int) (a1 : Int) (b0 : Int) (b1 : Int) (t1 : Bool) (t2 : Bool) (t3 : Int × Int) (t4 : Bool) (t5 : Bool) (t6 : Int × Int) (t7 : Bool) (t8 : Int × Int) (t9 : Int × Int) (t10 : Int × Int) (t11 : Bool) (t12 : Int × Int) (t13 : Bool) (t14 : Int × Int) (t15 : Bool) (t16 : Int × Int) (t17 : Int × Int) (t18 : Int × Int) (t19 : Int × Int) (t20 : Int × Int) : ref_Div.c0 false (fun _ => true) a0 a1 b0 b1 t1 t2 t3 t4 t5 t6 t7 t8 t9 t10 t11 t12 t13 t14 t15 t16 t17 t18 t19 t20 = true → ref_Div.c0 none (fun q => some (k q)) a0 a1 b0 b1 t1 t2 t3 t4 t5 t6 t7 t8 t9 t10 t11 t12 t13 t14 t15 t16 t17 t18 t19 t20 = some (k (ref_Div.c0 (0, 0, false) id a0 a1 b0 b1 t1 t2 t3 t4 t5 t6 t7 t8 t9 t10 t11 t12 t13 t14 t15 t16 t17 t18 t19 t20)) := by
  unfold ref_Div.c0; (repeat' (first | (apply pn k) | (exact pn_none _ _) | (exact pn_leaf k _)))
theorem ref_Div.p {γ : Type} (k : Int × Int × Bool → γ) (a0 : Int) (a1 : Int) (b0 : Int) (b1 : Int) (h : ref_Div.ok a0 a1 b0 b1 = true) : ref_Div.c none (fun q => some (k q)) a0 a1 b0 b1 = some (k (ref_Div a0 a1 b0 b1)) :=
  let t1 := ref_Empty a0 a1; let t2 := ref_Empty b0 b1; let t3 := ref_Meet b0 b1 1 9223372036854775807; let t4 := ref_corners.ok a0 a1 t3.fst t3.snd; let t5 := ref_Has a0 a1 (-9223372036854775808); let t6 := ref_Meet b0 b1 (-9223372036854775808) (-1); let t7 := ref_corners.ok a0 a1 t6.fst t6.snd; let t8 := ref_corners a0 a1 t3.fst t3.snd; let t9 := ref_corners a0 a1 t6.fst t6.snd; let t10 := ref_Join t8.fst t8.snd t9.fst t9.snd; let t11 := ref_Has t6.fst t6.snd (-1); let t12 := ref_Meet a0 a1 (-9223372036854775807) 9223372036854775807; let t13 := ref_corners.ok t12.fst t12.snd t6.fst t6.snd; let t14 := ref_Meet t6.fst t6.snd (-9223372036854775808) (-2); let t15 := ref_corners.ok (-9223372036854775808) (-9223372036854775808) t14.fst t14.snd; let t16 := ref_Join t8.fst t8.snd (-9223372036854775808) (-9223372036854775808); let t17 := ref_corners t12.fst t12.snd t6.fst t6.snd; let t18 := ref_Join t16.fst t16.snd t17.fst t17.snd; let t19 := ref_corners (-9223372036854775808) (-9223372036854775808) t14.fst t14.snd; let t20 := ref_Join t18.fst t18.snd t19.fst t19.snd; ref_Div.p0 k a0 a1 b0 b1 t1 t2 t3 t4 t5 t6 t7 t8 t9 t10 t11 t12 t13 t14 t15 t16 t17 t18 t19 t20 h
theorem ref_Div.r (a0 : Int) (a1 : Int) (b0 : Int) (b1 : Int) : runF P G (tab L_ref_corners) { merge := true } 60 Tryd.f28 [.agg #[.int .i64 a0, .int .i64 a1], .agg #[.int .i64 b0, .int .i64 b1]] = ref_Div.c none (fun q => some (.tuple #[.agg #[.int .i64 (q).1, .int .i64 (q).2.1], .bool (q).2.2] : Value)) a0 a1 b0 b1 := by kernel_rfl
theorem ref_Div.t : TabOK P G (tab L_ref_Div) :=
  TabOK_mk C ref_corners.t Tryd.func28 (by kernel_rfl) true 60 (by
    rintro ⟨⟨a0, ⟨a1, ⟨⟩⟩⟩, ⟨⟨b0, ⟨b1, ⟨⟩⟩⟩, ⟨⟩⟩⟩ h
    exact (ref_Div.r a0 a1 b0 b1).trans (ref_Div.p (fun q => (.tuple #[.agg #[.int .i64 (q).1, .int .i64 (q).2.1], .bool (q).2.2] : Value)) a0 a1 b0 b1 h))

def ref_Rem.c0 {γ : Type} (n : γ) (k : Int × Int × Bool → γ) (a0 : Int) (a1 : Int) (b0 : Int) (b1 : Int) (t1 : Bool) (t2 : Int × Int) (t3 : Bool) (t4 : Int × Int) (t5 : Bool) (t6 : Int) (t7 : Int) (t8 : Int) (t9 : Int) (t10 : Int) (t11 : Int) (t12 : Int) (t13 : Int) (t14 : Int) (t15 : Int) (t16 : Int) (t17 : Int) (t18 : Int) (t19 : Int) (t20 : Int) (t21 : Int) (t22 : Int) (t23 : Int) (t24 : Int) (t25 : Int) : γ := bif t1
  then k (ref_None.fst, ref_None.snd, true)
  else bif t3
   then bif t5
    then k (ref_None.fst, ref_None.snd, true)
    else bif a0 == a1
     then bif b0 == b1
      then bif b0 != -1
       then bif !decide (b0 = 0)
        then k (a0.tmod b0, a0.tmod b0, true)
        else n
       else k (0, 0, true)
      else bif decide (t8 < t13)
       then k (a0, a1, true)
       else k (t23, t25, true)
     else bif decide (t8 < t13)
      then k (a0, a1, true)
      else k (t23, t25, true)
   else bif a0 == a1
    then bif b0 == b1
     then bif b0 != -1
      then bif !decide (b0 = 0)
       then k (a0.tmod b0, a0.tmod b0, true)
       else n
      else k (0, 0, true)
     else bif decide (t8 < t13)
      then k (a0, a1, true)
      else k (t23, t25, true)
    else bif decide (t8 < t13)
     then k (a0, a1, true)
     else k (t23, t25, true)
def ref_Rem.c {γ : Type} (n : γ) (k : Int × Int × Bool → γ) (a0 : Int) (a1 : Int) (b0 : Int) (b1 : Int) : γ := let t1 := ref_Empty a0 a1; let t2 := ref_Meet b0 b1 (-9223372036854775808) (-1); let t3 := ref_Empty t2.fst t2.snd; let t4 := ref_Meet b0 b1 1 9223372036854775807; let t5 := ref_Empty t4.fst t4.snd; let t6 := ref_far a1; let t7 := ref_far a0; let t8 := if t6 > t7 then t6 else t7; let t9 := ref_far t4.fst; let t10 := ref_far t2.snd; let t11 := bif !t3 then t10 else 18446744073709551615; let t12 := if t9 < t11 then t9 else t11; let t13 := bif !t5 then t12 else t11; let t14 := ref_far t4.snd; let t15 := ref_far t2.fst; let t16 := bif !t3 then t15 else 0; let t17 := if t14 > t16 then t14 else t16; let t18 := bif !t5 then t17 else t16; let t19 := IntKind.u64.wrap (t18 - 1); let t20 := IntKind.i64.wrap t19; let t21 := IntKind.i64.wrap (0 - t20); let t22 := if t21 > a0 then t21 else a0; let t23 := if t22 < 0 then t22 else 0; let t24 := if t20 < a1 then t20 else a1; let t25 := if t24 > 0 then t24 else 0; ref_Rem.c0 n k a0 a1 b0 b1 t1 t2 t3 t4 t5 t6 t7 t8 t9 t10 t11 t12 t13 t14 t15 t16 t17 t18 t19 t20 t21 t22 t23 t24 t25
def ref_Rem.ok (a0 : Int) (a1 : Int) (b0 : Int) (b1 : Int) : Bool := ref_Rem.c false (fun _ => true) a0 a1 b0 b1
def ref_Rem (a0 : Int) (a1 : Int) (b0 : Int) (b1 : Int) : Int × Int × Bool := ref_Rem.c (0, 0, false) id a0 a1 b0 b1
def ref_Rem.F : FV := mkF (cP (cA (cP (cI .i64) (cP (cI .i64) cU))) (cP (cA (cP (cI .i64) (cP (cI .i64) cU))) cU)) (fun | ((a0, (a1, ())), ((b0, (b1, ())), ())) => ref_Rem.ok a0 a1 b0 b1) (fun | ((a0, (a1, ())), ((b0, (b1, ())), ())) => .tuple #[.agg #[.int .i64 (ref_Rem a0 a1 b0 b1).1, .int .i64 (ref_Rem a0 a1 b0 b1).2.1], .bool (ref_Rem a0 a1 b0 b1).2.2])
def L_ref_Rem : TL := (30, ref_Rem.F) :: L_ref_Div
theorem ref_Rem.p0 {γ : Type} (k : Int × Int × Bool → γ) (a0 : Int) (a1 : Int) (b0 : Int) (b1 : Int) (t1 : Bool) (t2 : Int × Int) (t3 : Bool) (t4 : Int × Int) (t5 : Bool) (t6 : Int) (t7 : Int) (t8 : Int) (t9 : Int) (t10 : Int) (t11 : Int) (t12 : Int) (t13 : Int) (t14 : Int) (t15 : Int) (t16 : Int) (t17 : Int) (t18 : Int) (t19 : Int) (t20 : Int) (t21 : Int) (t22 : Int) (t23 : Int) (t24 : Int) (t25 : Int) : ref_Rem.c0 false (fun _ => true) a0 a1 b0 b1 t1 t2 t3 t4 t5 t6 t7 t8 t9 t10 t11 t12 t13 t14 t15 t16 t17 t18 t19 t20 t21 t22 t23 t24 t25 = true → ref_Rem.c0 none (fun q => some (k q)) a0 a1 b0 b1 t1 t2 t3 t4 t5 t6 t7 t8 t9 t10 t11 t12 t13 t14 t15 t16 t17 t18 t19 t20 t21 t22 t23 t24 t25 = some (k (ref_Rem.c0 (0, 0, false) id a0 a1 b0 b1 t1 t2 t3 t4 t5 t6 t7 t8 t9 t10 t11 t12 t13 t14 t15 t16 t17 t18 t19 t20 t21 t22 t23 t24 t25)) := by
  unfold ref_Rem.c0; (repeat' (first | (apply pn k) | (exact pn_none _ _) | (exact pn_leaf k _)))
theorem ref_Rem.p {γ : Type} (k : Int × Int × Bool → γ) (a0 : Int) (a1 : Int) (b0 : Int) (b1 : Int) (h : ref_Rem.ok a0 a1 b0 b1 = true) : ref_Rem.c none (fun q => some (k q)) a0 a1 b0 b1 = some (k (ref_Rem a0 a1 b0 b1)) :=
  let t1 := ref_Empty a0 a1; let t2 := ref_Meet b0 b1 (-9223372036854775808) (-1); let t3 := ref_Empty t2.fst t2.snd; let t4 := ref_Meet b0 b1 1 9223372036854775807; let t5 := ref_Empty t4.fst t4.snd; let t6 := ref_far a1; let t7 := ref_far a0; let t8 := if t6 > t7 then t6 else t7; let t9 := ref_far t4.fst; let t10 := ref_far t2.snd; let t11 := bif !t3 then t10 else 18446744073709551615; let t12 := if t9 < t11 then t9 else t11; let t13 := bif !t5 then t12 else t11; let t14 := ref_far t4.snd; let t15 := ref_far t2.fst; let t16 := bif !t3 then t15 else 0; let t17 := if t14 > t16 then t14 else t16; let t18 := bif !t5 then t17 else t16; let t19 := IntKind.u64.wrap (t18 - 1); let t20 := IntKind.i64.wrap t19; let t21 := IntKind.i64.wrap (0 - t20); let t22 := if t21 > a0 then t21 else a0; let t23 := if t22 < 0 then t22 else 0; let t24 := if t20 < a1 then t20 else a1; let t25 := if t24 > 0 then t24 else 0; ref_Rem.p0 k a0 a1 b0 b1 t1 t2 t3 t4 t5 t6 t7 t8 t9 t10 t11 t12 t13 t14 t15 t16 t17 t18 t19 t20 t21 t22 t23 t24 t25 h
theorem ref_Rem.r (a0 : Int) (a1 : Int) (b0 : Int) (b1 : Int) : runF P G (tab L_ref_Div) { merge := true } 60 Tryd.f30 [.agg #[.int .i64 a0, .int .i64 a1], .agg #[.int .i64 b0, .int .i64 b1]] = ref_Rem.c none (fun q => some (.tuple #[.agg #[.int .i64 (q).1, .int .i64 (q).2.1], .bool (q).2.2] : Value)) a0 a1 b0 b1 := by kernel_rfl
theorem ref_Rem.t : TabOK P G (tab L_ref_Rem) :=
  TabOK_mk C ref_Div.t Tryd.func30 (by kernel_rfl) true 60 (by
    rintro ⟨⟨a0, ⟨a1, ⟨⟩⟩⟩, ⟨⟨b0, ⟨b1, ⟨⟩⟩⟩, ⟨⟩⟩⟩ h
    exact (ref_Rem.r a0 a1 b0 b1).trans (ref_Rem.p (fun q => (.tuple #[.agg #[.int .i64 (q).1, .int .i64 (q).2.1], .bool (q).2.2] : Value)) a0 a1 b0 b1 h))

end Go.Proofs.YtbbplkdjcgdaaaaDoor.V
