/- What the functions of this seat compute, told by evaluation of their code. Conditions: none. -/
import Derived.Test.YtonpbbhlmapbdaaGreatDoorE4
set_option linter.unusedVariables false
set_option linter.unusedSimpArgs false
namespace Go.Proofs.YtonpbbhlmapbdaaGreatDoor.V
open Go Go.Wk
noncomputable section
def B.ref_parted.val (q : Int × Int × Int × Int) : Value := .tuple #[.agg #[.int .u64 (q).1, .int .u64 (q).2.1], .agg #[.int .u64 (q).2.2.1, .int .u64 (q).2.2.2]]
def B.ref_parted.h : List (Nat × List Nat × Nat) := [(5, [2, 3, 4, 5, 6, 7, 8], 6)]
def B.ref_parted.e0 (q : Int × Int × Int × Int × Int × Int × Int × Int × Int × Int × Int × Int × Int) : St := { tmps := [.unk, .unk, .ptr 0 0, .ptr 1 0, .ptr 2 0, .ptr 3 0, .ptr 4 0, .ptr 5 0, .val (.int .i64 (q).1), .unk, .unk, .unk, .unk, .unk, .unk, .unk, .unk, .unk, .unk, .unk, .unk, .unk, .unk, .unk, .unk, .unk, .unk, .unk, .unk, .unk, .unk, .unk, .unk, .unk, .unk, .unk, .unk, .unk, .unk, .unk, .unk, .unk, .unk, .unk, .unk, .unk, .unk, .unk, .unk, .unk, .unk, .unk, .unk, .unk, .unk, .unk, .unk, .unk, .unk, .unk, .unk, .unk, .unk], blks := [some ⟨[.val (.int .u64 (q).2.1), .val (.int .u64 (q).2.2.1)], 117⟩, some ⟨[.val (.int .u64 (q).2.2.2.1), .val (.int .u64 (q).2.2.2.2.1)], 117⟩, some ⟨[.val (.int .u64 (q).2.2.2.2.2.1), .val (.int .u64 (q).2.2.2.2.2.2.1)], 117⟩, some ⟨[.val (.int .u64 (q).2.2.2.2.2.2.2.1), .val (.int .u64 (q).2.2.2.2.2.2.2.2.1)], 117⟩, some ⟨[.val (.int .u64 (q).2.2.2.2.2.2.2.2.2.1), .val (.int .u64 (q).2.2.2.2.2.2.2.2.2.2.1)], 117⟩, some ⟨[.val (.int .u64 (q).2.2.2.2.2.2.2.2.2.2.2.1), .val (.int .u64 (q).2.2.2.2.2.2.2.2.2.2.2.2)], 117⟩], saved := [] }
noncomputable def B.ref_parted.B0 : Code := loopAt [1, 1, 1, 0, 1, 0] (fbody Tryz.f226)
noncomputable def B.ref_parted.H (F0 : LSum) : Heads := { heads := B.ref_parted.h, merge := true, sums := [(5, F0)] }
noncomputable def B.ref_parted.H0  : Heads := { heads := B.ref_parted.h, merge := true, sums := [] }
noncomputable def B.ref_parted.K0 (F0 : LSum) : Xt → St → Option Value := kAt P G (tab L_B.ref_bitOf) (B.ref_parted.H F0) [1, 1, 1, 0, 1, 0] 60 (fbody Tryz.f226) (retK P G Tryz.f226)
def B.ref_parted.l0.c0 {γ : Type} (k0 : Int × Int × Int × Int × Int × Int × Int × Int × Int × Int × Int × Int × Int → Option γ) (k : Int × Int × Int × Int → Option γ) (s8 : Int) (b0_0 : Int) (b0_1 : Int) (b1_0 : Int) (b1_1 : Int) (b2_0 : Int) (b2_1 : Int) (b3_0 : Int) (b3_1 : Int) (b4_0 : Int) (b4_1 : Int) (b5_0 : Int) (b5_1 : Int) (t1 : Bool) (t2 : Int) (t3 : Int × Int × Bool) (t4 : Int) (t5 : Int × Int × Bool) (t6 : Int × Int) (t7 : Bool) : Option γ := bif decide (s8 ≥ 0)
  then bif t1
   then bif t3.snd.snd
    then k0 (t4, b0_0, b0_1, b1_0, b1_1, b2_0, b2_1, b3_0, b3_1, t5.fst, orI IntKind.u64 t5.snd.fst 1, t6.fst, t6.snd)
    else bif !t7
     then k0 (t4, b0_0, b0_1, b1_0, b1_1, b2_0, b2_1, b3_0, b3_1, t5.fst, orI IntKind.u64 t5.snd.fst 1, t6.fst, t6.snd)
     else k0 (t4, b0_0, b0_1, b1_0, b1_1, b2_0, b2_1, b3_0, b3_1, t5.fst, t5.snd.fst, t3.fst, t3.snd.fst)
   else none
  else k (b4_0, b4_1, b5_0, b5_1)
def B.ref_parted.l0.c {γ : Type} (k0 : Int × Int × Int × Int × Int × Int × Int × Int × Int × Int × Int × Int × Int → Option γ) (k : Int × Int × Int × Int → Option γ) (s8 : Int) (b0_0 : Int) (b0_1 : Int) (b1_0 : Int) (b1_1 : Int) (b2_0 : Int) (b2_1 : Int) (b3_0 : Int) (b3_1 : Int) (b4_0 : Int) (b4_1 : Int) (b5_0 : Int) (b5_1 : Int) : Option γ := let t1 := B.ref_bitOf.ok b0_0 b0_1 s8; let t2 := B.ref_bitOf b0_0 b0_1 s8; let t3 := B.ref_twice b5_0 b5_1 t2; let t4 := IntKind.i64.wrap (s8 - 1); let t5 := B.ref_twice b4_0 b4_1 0; let t6 := B.ref_minus t3.fst t3.snd.fst b1_0 b1_1; let t7 := B.ref_less t3.fst t3.snd.fst b1_0 b1_1; B.ref_parted.l0.c0 k0 k s8 b0_0 b0_1 b1_0 b1_1 b2_0 b2_1 b3_0 b3_1 b4_0 b4_1 b5_0 b5_1 t1 t2 t3 t4 t5 t6 t7
def B.ref_parted.c0 {γ : Type} (k0 : Int × Int × Int × Int × Int × Int × Int × Int × Int × Int × Int × Int × Int → Option γ) (k : Int × Int × Int × Int → Option γ) (a0 : Int) (a1 : Int) (b0 : Int) (b1 : Int) (t1 : Int) (t2 : Int × Int) (t3 : Int × Int) : Option γ := bif a0 == 0
  then bif b0 == 0
   then bif !decide (b1 = 0)
    then bif !decide (b1 = 0)
     then k (t2.fst, t2.snd, t3.fst, t3.snd)
     else none
    else none
   else k0 (127, a0, a1, b0, b1, 0, 0, 0, 0, 0, 0, 0, 0)
  else k0 (127, a0, a1, b0, b1, 0, 0, 0, 0, 0, 0, 0, 0)
def B.ref_parted.c {γ : Type} (k0 : Int × Int × Int × Int × Int × Int × Int × Int × Int × Int × Int × Int × Int → Option γ) (k : Int × Int × Int × Int → Option γ) (a0 : Int) (a1 : Int) (b0 : Int) (b1 : Int) : Option γ := let t1 := IntKind.u64.wrap (a1.tdiv b1); let t2 := B.ref_of t1; let t3 := B.ref_of (a1.tmod b1); B.ref_parted.c0 k0 k a0 a1 b0 b1 t1 t2 t3
def B.ref_parted.L0 (N : Nat)  : Nat → Int × Int × Int × Int × Int × Int × Int × Int × Int × Int × Int × Int × Int → Option (Int × Int × Int × Int)
  | 0, _ => none
  | m + 1, q => B.ref_parted.l0.c (B.ref_parted.L0 N m) some (q).1 (q).2.1 (q).2.2.1 (q).2.2.2.1 (q).2.2.2.2.1 (q).2.2.2.2.2.1 (q).2.2.2.2.2.2.1 (q).2.2.2.2.2.2.2.1 (q).2.2.2.2.2.2.2.2.1 (q).2.2.2.2.2.2.2.2.2.1 (q).2.2.2.2.2.2.2.2.2.2.1 (q).2.2.2.2.2.2.2.2.2.2.2.1 (q).2.2.2.2.2.2.2.2.2.2.2.2
def B.ref_parted.o (N : Nat) (a0 : Int) (a1 : Int) (b0 : Int) (b1 : Int) : Option (Int × Int × Int × Int) := B.ref_parted.c (B.ref_parted.L0 N  N) some a0 a1 b0 b1
noncomputable def B.ref_parted.S0 (N : Nat) : LSum := sumN P G (tab L_B.ref_bitOf) (B.ref_parted.H0 ) 60 B.ref_parted.B0 N
theorem B.ref_parted.l0.p0 {γ δ : Type} (f : γ → δ) (k0 : Int × Int × Int × Int × Int × Int × Int × Int × Int × Int × Int × Int × Int → Option γ) (k : Int × Int × Int × Int → Option γ) (s8 : Int) (b0_0 : Int) (b0_1 : Int) (b1_0 : Int) (b1_1 : Int) (b2_0 : Int) (b2_1 : Int) (b3_0 : Int) (b3_1 : Int) (b4_0 : Int) (b4_1 : Int) (b5_0 : Int) (b5_1 : Int) (t1 : Bool) (t2 : Int) (t3 : Int × Int × Bool) (t4 : Int) (t5 : Int × Int × Bool) (t6 : Int × Int) (t7 : Bool) : B.ref_parted.l0.c0 (fun q => (k0 q).map f) (fun q => (k q).map f) s8 b0_0 b0_1 b1_0 b1_1 b2_0 b2_1 b3_0 b3_1 b4_0 b4_1 b5_0 b5_1 t1 t2 t3 t4 t5 t6 t7 = (B.ref_parted.l0.c0 k0 k s8 b0_0 b0_1 b1_0 b1_1 b2_0 b2_1 b3_0 b3_1 b4_0 b4_1 b5_0 b5_1 t1 t2 t3 t4 t5 t6 t7).map f := by
  unfold B.ref_parted.l0.c0; (repeat' (first | (apply pm f) | (exact rfl)))
theorem B.ref_parted.l0.p {γ δ : Type} (f : γ → δ) (k0 : Int × Int × Int × Int × Int × Int × Int × Int × Int × Int × Int × Int × Int → Option γ) (k : Int × Int × Int × Int → Option γ) (s8 : Int) (b0_0 : Int) (b0_1 : Int) (b1_0 : Int) (b1_1 : Int) (b2_0 : Int) (b2_1 : Int) (b3_0 : Int) (b3_1 : Int) (b4_0 : Int) (b4_1 : Int) (b5_0 : Int) (b5_1 : Int) : B.ref_parted.l0.c (fun q => (k0 q).map f) (fun q => (k q).map f) s8 b0_0 b0_1 b1_0 b1_1 b2_0 b2_1 b3_0 b3_1 b4_0 b4_1 b5_0 b5_1 = (B.ref_parted.l0.c k0 k s8 b0_0 b0_1 b1_0 b1_1 b2_0 b2_1 b3_0 b3_1 b4_0 b4_1 b5_0 b5_1).map f :=
  let t1 := B.ref_bitOf.ok b0_0 b0_1 s8; let t2 := B.ref_bitOf b0_0 b0_1 s8; let t3 := B.ref_twice b5_0 b5_1 t2; let t4 := IntKind.i64.wrap (s8 - 1); let t5 := B.ref_twice b4_0 b4_1 0; let t6 := B.ref_minus t3.fst t3.snd.fst b1_0 b1_1; let t7 := B.ref_less t3.fst t3.snd.fst b1_0 b1_1; B.ref_parted.l0.p0 f k0 k s8 b0_0 b0_1 b1_0 b1_1 b2_0 b2_1 b3_0 b3_1 b4_0 b4_1 b5_0 b5_1 t1 t2 t3 t4 t5 t6 t7
theorem B.ref_parted.p0 {γ δ : Type} (f : γ → δ) (k0 : Int × Int × Int × Int × Int × Int × Int × Int × Int × Int × Int × Int × Int → Option γ) (k : Int × Int × Int × Int → Option γ) (a0 : Int) (a1 : Int) (b0 : Int) (b1 : Int) (t1 : Int) (t2 : Int × Int) (t3 : Int × Int) : B.ref_parted.c0 (fun q => (k0 q).map f) (fun q => (k q).map f) a0 a1 b0 b1 t1 t2 t3 = (B.ref_parted.c0 k0 k a0 a1 b0 b1 t1 t2 t3).map f := by
  unfold B.ref_parted.c0; (repeat' (first | (apply pm f) | (exact rfl)))
theorem B.ref_parted.p {γ δ : Type} (f : γ → δ) (k0 : Int × Int × Int × Int × Int × Int × Int × Int × Int × Int × Int × Int × Int → Option γ) (k : Int × Int × Int × Int → Option γ) (a0 : Int) (a1 : Int) (b0 : Int) (b1 : Int) : B.ref_parted.c (fun q => (k0 q).map f) (fun q => (k q).map f) a0 a1 b0 b1 = (B.ref_parted.c k0 k a0 a1 b0 b1).map f :=
  let t1 := IntKind.u64.wrap (a1.tdiv b1); let t2 := B.ref_of t1; let t3 := B.ref_of (a1.tmod b1); B.ref_parted.p0 f k0 k a0 a1 b0 b1 t1 t2 t3
theorem B.ref_parted.S0.ok (N : Nat) : LoopsOK P G (B.ref_parted.H0 ).sums B.ref_parted.B0 := by
  refine LoopsOK_code fun i hi F hF => ?_
  have hlen : (loopsOf B.ref_parted.B0).length = 0 := by kernel_rfl
  rw [hlen] at hi
  omega
theorem B.ref_parted.S0.snd (N : Nat) : SoundL P G B.ref_parted.B0 (B.ref_parted.S0 N) := sumN_sound C.mixed C.names B.ref_bitOf.t (B.ref_parted.S0.ok N) N
theorem B.ref_parted.l0.r (F0 G0 : LSum) (s8 : Int) (b0_0 : Int) (b0_1 : Int) (b1_0 : Int) (b1_1 : Int) (b2_0 : Int) (b2_1 : Int) (b3_0 : Int) (b3_1 : Int) (b4_0 : Int) (b4_1 : Int) (b5_0 : Int) (b5_1 : Int) : ex P G (tab L_B.ref_bitOf) (B.ref_parted.H0 ) 60 B.ref_parted.B0 (B.ref_parted.e0 (s8, b0_0, b0_1, b1_0, b1_1, b2_0, b2_1, b3_0, b3_1, b4_0, b4_1, b5_0, b5_1)) (roundK (B.ref_parted.H0 ) B.ref_parted.B0 G0 (B.ref_parted.K0 F0)) = B.ref_parted.l0.c (fun q => G0.run (B.ref_parted.e0 q) (B.ref_parted.K0 F0)) (fun q => some (B.ref_parted.val q)) s8 b0_0 b0_1 b1_0 b1_1 b2_0 b2_1 b3_0 b3_1 b4_0 b4_1 b5_0 b5_1 := by kernel_rfl
theorem B.ref_parted.r (F0 : LSum) (a0 : Int) (a1 : Int) (b0 : Int) (b1 : Int) : runF P G (tab L_B.ref_bitOf) (B.ref_parted.H F0) 60 Tryz.f226 [.agg #[.int .u64 a0, .int .u64 a1], .agg #[.int .u64 b0, .int .u64 b1]] = B.ref_parted.c (fun q => F0.run (B.ref_parted.e0 q) (B.ref_parted.K0 F0)) (fun q => some (B.ref_parted.val q)) a0 a1 b0 b1 := by kernel_rfl
theorem B.ref_parted.L0.ok (N : Nat) (F0 : LSum)   : ∀ m q, (sumN P G (tab L_B.ref_bitOf) (B.ref_parted.H0 ) 60 B.ref_parted.B0 m).run (B.ref_parted.e0 q) (B.ref_parted.K0 F0) = (B.ref_parted.L0 N  m q).map B.ref_parted.val
  | 0, q => rfl
  | m + 1, q => by
    have ih := B.ref_parted.L0.ok N F0   m
    refine (sumN_run (n := m) rfl).trans ((B.ref_parted.l0.r F0 (sumN P G (tab L_B.ref_bitOf) (B.ref_parted.H0 ) 60 B.ref_parted.B0 m) (q).1 (q).2.1 (q).2.2.1 (q).2.2.2.1 (q).2.2.2.2.1 (q).2.2.2.2.2.1 (q).2.2.2.2.2.2.1 (q).2.2.2.2.2.2.2.1 (q).2.2.2.2.2.2.2.2.1 (q).2.2.2.2.2.2.2.2.2.1 (q).2.2.2.2.2.2.2.2.2.2.1 (q).2.2.2.2.2.2.2.2.2.2.2.1 (q).2.2.2.2.2.2.2.2.2.2.2.2).trans ?_)
    refine Eq.trans ?_ (B.ref_parted.l0.p B.ref_parted.val (B.ref_parted.L0 N m) some (q).1 (q).2.1 (q).2.2.1 (q).2.2.2.1 (q).2.2.2.2.1 (q).2.2.2.2.2.1 (q).2.2.2.2.2.2.1 (q).2.2.2.2.2.2.2.1 (q).2.2.2.2.2.2.2.2.1 (q).2.2.2.2.2.2.2.2.2.1 (q).2.2.2.2.2.2.2.2.2.2.1 (q).2.2.2.2.2.2.2.2.2.2.2.1 (q).2.2.2.2.2.2.2.2.2.2.2.2)
    have e0 : (fun q => (sumN P G (tab L_B.ref_bitOf) (B.ref_parted.H0 ) 60 B.ref_parted.B0 m).run (B.ref_parted.e0 q) (B.ref_parted.K0 F0)) = (fun q => ((B.ref_parted.L0 N m) q).map B.ref_parted.val) := funext ih
    rw [e0]; rfl
theorem B.ref_parted.q (N : Nat) (a0 : Int) (a1 : Int) (b0 : Int) (b1 : Int) : runF P G (tab L_B.ref_bitOf) (B.ref_parted.H (B.ref_parted.S0 N)) 60 Tryz.f226 [.agg #[.int .u64 a0, .int .u64 a1], .agg #[.int .u64 b0, .int .u64 b1]] = (B.ref_parted.o N a0 a1 b0 b1).map B.ref_parted.val := by
  have hk0 := B.ref_parted.L0.ok N (B.ref_parted.S0 N)   N
  refine (B.ref_parted.r (B.ref_parted.S0 N) a0 a1 b0 b1).trans ?_
  refine Eq.trans ?_ (B.ref_parted.p B.ref_parted.val (B.ref_parted.L0 N  N) some a0 a1 b0 b1)
  have e0 : (fun q => (B.ref_parted.S0 N).run (B.ref_parted.e0 q) (B.ref_parted.K0 (B.ref_parted.S0 N))) = (fun q => ((B.ref_parted.L0 N  N) q).map B.ref_parted.val) := funext hk0
  rw [e0]; rfl
theorem B.ref_parted.lok (N : Nat) : LoopsOK P G (B.ref_parted.H (B.ref_parted.S0 N)).sums (fbody Tryz.f226) := by
  refine LoopsOK_code fun i hi F hF => ?_
  have hlen : (loopsOf (fbody Tryz.f226)).length = 1 := by kernel_rfl
  rw [hlen] at hi
  match i, hi with
  | 0, _ => exact soundAt (B' := B.ref_parted.B0) (by kernel_rfl) (by kernel_rfl) (B.ref_parted.S0.snd N) hF
  | _ + 1, h => omega
def B.ref_parted (a0 : Int) (a1 : Int) (b0 : Int) (b1 : Int) : Int × Int × Int × Int := hide ((B.ref_parted.o (130) a0 a1 b0 b1).getD (0, 0, 0, 0))
def B.ref_parted.g (a0 : Int) (a1 : Int) (b0 : Int) (b1 : Int) : Bool := hide (B.ref_parted.o (130) a0 a1 b0 b1).isSome
theorem B.ref_parted.s (a0 : Int) (a1 : Int) (b0 : Int) (b1 : Int) (h : B.ref_parted.g a0 a1 b0 b1 = true) : B.ref_parted.o (130) a0 a1 b0 b1 = some (B.ref_parted a0 a1 b0 b1) := by
  unfold B.ref_parted.g at h; unfold B.ref_parted; simp only [hide_eq] at h ⊢; revert h; cases B.ref_parted.o (130) a0 a1 b0 b1 <;> simp
def B.ref_parted.F : FV := mkF (cP (cA (cP (cI .u64) (cP (cI .u64) cU))) (cP (cA (cP (cI .u64) (cP (cI .u64) cU))) cU)) (fun | ((a0, (a1, ())), ((b0, (b1, ())), ())) => B.ref_parted.g a0 a1 b0 b1) (fun | ((a0, (a1, ())), ((b0, (b1, ())), ())) => B.ref_parted.val (B.ref_parted a0 a1 b0 b1))
def L_B.ref_parted : TL := (226, B.ref_parted.F) :: L_B.ref_bitOf
theorem B.ref_parted.t : TabOK P G (tab L_B.ref_parted) :=
  TabOK_mkH C B.ref_bitOf.t Tryz.func226 (by kernel_rfl) (fun | ((_, (_, ())), ((_, (_, ())), ())) => B.ref_parted.H (B.ref_parted.S0 (130))) (by rintro ⟨⟨a0, ⟨a1, ⟨⟩⟩⟩, ⟨⟨b0, ⟨b1, ⟨⟩⟩⟩, ⟨⟩⟩⟩; exact B.ref_parted.lok _) 60 (by
    rintro ⟨⟨a0, ⟨a1, ⟨⟩⟩⟩, ⟨⟨b0, ⟨b1, ⟨⟩⟩⟩, ⟨⟩⟩⟩ h
    exact (B.ref_parted.q (130) a0 a1 b0 b1).trans (congrArg (Option.map B.ref_parted.val) (B.ref_parted.s a0 a1 b0 b1 h)))
def B.ref_times.val (q : Int × Int) : Value := .agg #[.int .u64 (q).1, .int .u64 (q).2]
def B.ref_times.h : List (Nat × List Nat × Nat) := [(3, [0, 1, 4, 5, 6], 2)]
def B.ref_times.e0 (q : Int × Int × Int × Int × Int × Int × Int) : St := { tmps := [.val (.int .u64 (q).1), .val (.int .u64 (q).2.1), .unk, .unk, .ptr 0 0, .ptr 1 0, .val (.int .i64 (q).2.2.1), .unk, .unk, .unk, .unk, .unk, .unk, .unk, .unk, .unk, .unk, .unk, .unk, .unk, .unk, .unk, .unk, .unk, .unk, .unk, .unk, .unk, .unk, .unk, .unk, .unk, .unk, .unk, .unk], blks := [some ⟨[.val (.int .u64 (q).2.2.2.1), .val (.int .u64 (q).2.2.2.2.1)], 117⟩, some ⟨[.val (.int .u64 (q).2.2.2.2.2.1), .val (.int .u64 (q).2.2.2.2.2.2)], 117⟩], saved := [] }
noncomputable def B.ref_times.B0 : Code := loopAt [1, 1, 0, 1, 0] (fbody Tryz.f153)
noncomputable def B.ref_times.H (F0 : LSum) : Heads := { heads := B.ref_times.h, merge := true, sums := [(3, F0)] }
noncomputable def B.ref_times.H0  : Heads := { heads := B.ref_times.h, merge := true, sums := [] }
noncomputable def B.ref_times.K0 (F0 : LSum) : Xt → St → Option Value := kAt P G (tab L_B.ref_parted) (B.ref_times.H F0) [1, 1, 0, 1, 0] 60 (fbody Tryz.f153) (retK P G Tryz.f153)
def B.ref_times.l0.c0 {γ : Type} (k0 : Int × Int × Int × Int × Int × Int × Int → Option γ) (k : Int × Int → Option γ) (s0 : Int) (s1 : Int) (s6 : Int) (b0_0 : Int) (b0_1 : Int) (b1_0 : Int) (b1_1 : Int) (t1 : Int × Int × Bool) (t2 : Int) (t3 : Int) (t4 : Int) : Option γ := bif decide (s6 ≥ 0)
  then bif !decide (s6 < 0)
   then bif andI IntKind.u64 (s1.fdiv (2 ^ min s6.toNat IntKind.u64.bits)) 1 == 1
    then bif decide (t2 < s0)
     then k0 (s0, s1, t3, b0_0, b0_1, t4, t2)
     else k0 (s0, s1, t3, b0_0, b0_1, t1.fst, t2)
    else k0 (s0, s1, t3, b0_0, b0_1, t1.fst, t1.snd.fst)
   else none
  else k (b1_0, b1_1)
def B.ref_times.l0.c {γ : Type} (k0 : Int × Int × Int × Int × Int × Int × Int → Option γ) (k : Int × Int → Option γ) (s0 : Int) (s1 : Int) (s6 : Int) (b0_0 : Int) (b0_1 : Int) (b1_0 : Int) (b1_1 : Int) : Option γ := let t1 := B.ref_twice b1_0 b1_1 0; let t2 := IntKind.u64.wrap (t1.snd.fst + s0); let t3 := IntKind.i64.wrap (s6 - 1); let t4 := IntKind.u64.wrap (t1.fst + 1); B.ref_times.l0.c0 k0 k s0 s1 s6 b0_0 b0_1 b1_0 b1_1 t1 t2 t3 t4
def B.ref_times.c {γ : Type} (k0 : Int × Int × Int × Int × Int × Int × Int → Option γ) (k : Int × Int → Option γ) (a : Int) (b : Int) : Option γ := k0 (a, b, 63, 0, 0, 0, 0)
def B.ref_times.L0 (N : Nat)  : Nat → Int × Int × Int × Int × Int × Int × Int → Option (Int × Int)
  | 0, _ => none
  | m + 1, q => B.ref_times.l0.c (B.ref_times.L0 N m) some (q).1 (q).2.1 (q).2.2.1 (q).2.2.2.1 (q).2.2.2.2.1 (q).2.2.2.2.2.1 (q).2.2.2.2.2.2
def B.ref_times.o (N : Nat) (a : Int) (b : Int) : Option (Int × Int) := B.ref_times.c (B.ref_times.L0 N  N) some a b
noncomputable def B.ref_times.S0 (N : Nat) : LSum := sumN P G (tab L_B.ref_parted) (B.ref_times.H0 ) 60 B.ref_times.B0 N
theorem B.ref_times.l0.p0 {γ δ : Type} (f : γ → δ) (k0 : Int × Int × Int × Int × Int × Int × Int → Option γ) (k : Int × Int → Option γ) (s0 : Int) (s1 : Int) (s6 : Int) (b0_0 : Int) (b0_1 : Int) (b1_0 : Int) (b1_1 : Int) (t1 : Int × Int × Bool) (t2 : Int) (t3 : Int) (t4 : Int) : B.ref_times.l0.c0 (fun q => (k0 q).map f) (fun q => (k q).map f) s0 s1 s6 b0_0 b0_1 b1_0 b1_1 t1 t2 t3 t4 = (B.ref_times.l0.c0 k0 k s0 s1 s6 b0_0 b0_1 b1_0 b1_1 t1 t2 t3 t4).map f := by
  unfold B.ref_times.l0.c0; (repeat' (first | (apply pm f) | (exact rfl)))
theorem B.ref_times.l0.p {γ δ : Type} (f : γ → δ) (k0 : Int × Int × Int × Int × Int × Int × Int → Option γ) (k : Int × Int → Option γ) (s0 : Int) (s1 : Int) (s6 : Int) (b0_0 : Int) (b0_1 : Int) (b1_0 : Int) (b1_1 : Int) : B.ref_times.l0.c (fun q => (k0 q).map f) (fun q => (k q).map f) s0 s1 s6 b0_0 b0_1 b1_0 b1_1 = (B.ref_times.l0.c k0 k s0 s1 s6 b0_0 b0_1 b1_0 b1_1).map f :=
  let t1 := B.ref_twice b1_0 b1_1 0; let t2 := IntKind.u64.wrap (t1.snd.fst + s0); let t3 := IntKind.i64.wrap (s6 - 1); let t4 := IntKind.u64.wrap (t1.fst + 1); B.ref_times.l0.p0 f k0 k s0 s1 s6 b0_0 b0_1 b1_0 b1_1 t1 t2 t3 t4
theorem B.ref_times.p {γ δ : Type} (f : γ → δ) (k0 : Int × Int × Int × Int × Int × Int × Int → Option γ) (k : Int × Int → Option γ) (a : Int) (b : Int) : B.ref_times.c (fun q => (k0 q).map f) (fun q => (k q).map f) a b = (B.ref_times.c k0 k a b).map f := by
  unfold B.ref_times.c; (repeat' (first | (apply pm f) | (exact rfl)))
theorem B.ref_times.S0.ok (N : Nat) : LoopsOK P G (B.ref_times.H0 ).sums B.ref_times.B0 := by
  refine LoopsOK_code fun i hi F hF => ?_
  have hlen : (loopsOf B.ref_times.B0).length = 0 := by kernel_rfl
  rw [hlen] at hi
  omega
theorem B.ref_times.S0.snd (N : Nat) : SoundL P G B.ref_times.B0 (B.ref_times.S0 N) := sumN_sound C.mixed C.names B.ref_parted.t (B.ref_times.S0.ok N) N
theorem B.ref_times.l0.r (F0 G0 : LSum) (s0 : Int) (s1 : Int) (s6 : Int) (b0_0 : Int) (b0_1 : Int) (b1_0 : Int) (b1_1 : Int) : ex P G (tab L_B.ref_parted) (B.ref_times.H0 ) 60 B.ref_times.B0 (B.ref_times.e0 (s0, s1, s6, b0_0, b0_1, b1_0, b1_1)) (roundK (B.ref_times.H0 ) B.ref_times.B0 G0 (B.ref_times.K0 F0)) = B.ref_times.l0.c (fun q => G0.run (B.ref_times.e0 q) (B.ref_times.K0 F0)) (fun q => some (B.ref_times.val q)) s0 s1 s6 b0_0 b0_1 b1_0 b1_1 := by kernel_rfl
theorem B.ref_times.r (F0 : LSum) (a : Int) (b : Int) : runF P G (tab L_B.ref_parted) (B.ref_times.H F0) 60 Tryz.f153 [.int .u64 a, .int .u64 b] = B.ref_times.c (fun q => F0.run (B.ref_times.e0 q) (B.ref_times.K0 F0)) (fun q => some (B.ref_times.val q)) a b := by kernel_rfl
theorem B.ref_times.L0.ok (N : Nat) (F0 : LSum)   : ∀ m q, (sumN P G (tab L_B.ref_parted) (B.ref_times.H0 ) 60 B.ref_times.B0 m).run (B.ref_times.e0 q) (B.ref_times.K0 F0) = (B.ref_times.L0 N  m q).map B.ref_times.val
  | 0, q => rfl
  | m + 1, q => by
    have ih := B.ref_times.L0.ok N F0   m
    refine (sumN_run (n := m) rfl).trans ((B.ref_times.l0.r F0 (sumN P G (tab L_B.ref_parted) (B.ref_times.H0 ) 60 B.ref_times.B0 m) (q).1 (q).2.1 (q).2.2.1 (q).2.2.2.1 (q).2.2.2.2.1 (q).2.2.2.2.2.1 (q).2.2.2.2.2.2).trans ?_)
    refine Eq.trans ?_ (B.ref_times.l0.p B.ref_times.val (B.ref_times.L0 N m) some (q).1 (q).2.1 (q).2.2.1 (q).2.2.2.1 (q).2.2.2.2.1 (q).2.2.2.2.2.1 (q).2.2.2.2.2.2)
    have e0 : (fun q => (sumN P G (tab L_B.ref_parted) (B.ref_times.H0 ) 60 B.ref_times.B0 m).run (B.ref_times.e0 q) (B.ref_times.K0 F0)) = (fun q => ((B.ref_times.L0 N m) q).map B.ref_times.val) := funext ih
    rw [e0]; rfl
theorem B.ref_times.q (N : Nat) (a : Int) (b : Int) : runF P G (tab L_B.ref_parted) (B.ref_times.H (B.ref_times.S0 N)) 60 Tryz.f153 [.int .u64 a, .int .u64 b] = (B.ref_times.o N a b).map B.ref_times.val := by
  have hk0 := B.ref_times.L0.ok N (B.ref_times.S0 N)   N
  refine (B.ref_times.r (B.ref_times.S0 N) a b).trans ?_
  refine Eq.trans ?_ (B.ref_times.p B.ref_times.val (B.ref_times.L0 N  N) some a b)
  have e0 : (fun q => (B.ref_times.S0 N).run (B.ref_times.e0 q) (B.ref_times.K0 (B.ref_times.S0 N))) = (fun q => ((B.ref_times.L0 N  N) q).map B.ref_times.val) := funext hk0
  rw [e0]; rfl
theorem B.ref_times.lok (N : Nat) : LoopsOK P G (B.ref_times.H (B.ref_times.S0 N)).sums (fbody Tryz.f153) := by
  refine LoopsOK_code fun i hi F hF => ?_
  have hlen : (loopsOf (fbody Tryz.f153)).length = 1 := by kernel_rfl
  rw [hlen] at hi
  match i, hi with
  | 0, _ => exact soundAt (B' := B.ref_times.B0) (by kernel_rfl) (by kernel_rfl) (B.ref_times.S0.snd N) hF
  | _ + 1, h => omega
def B.ref_times (a : Int) (b : Int) : Int × Int := hide ((B.ref_times.o (66) a b).getD (0, 0))
def B.ref_times.g (a : Int) (b : Int) : Bool := hide (B.ref_times.o (66) a b).isSome
theorem B.ref_times.s (a : Int) (b : Int) (h : B.ref_times.g a b = true) : B.ref_times.o (66) a b = some (B.ref_times a b) := by
  unfold B.ref_times.g at h; unfold B.ref_times; simp only [hide_eq] at h ⊢; revert h; cases B.ref_times.o (66) a b <;> simp
def B.ref_times.F : FV := mkF (cP (cI .u64) (cP (cI .u64) cU)) (fun | (a, (b, ())) => B.ref_times.g a b) (fun | (a, (b, ())) => B.ref_times.val (B.ref_times a b))
def L_B.ref_times : TL := (153, B.ref_times.F) :: L_B.ref_parted
theorem B.ref_times.t : TabOK P G (tab L_B.ref_times) :=
  TabOK_mkH C B.ref_parted.t Tryz.func153 (by kernel_rfl) (fun | (_, (_, ())) => B.ref_times.H (B.ref_times.S0 (66))) (by rintro ⟨a, ⟨b, ⟨⟩⟩⟩; exact B.ref_times.lok _) 60 (by
    rintro ⟨a, ⟨b, ⟨⟩⟩⟩ h
    exact (B.ref_times.q (66) a b).trans (congrArg (Option.map B.ref_times.val) (B.ref_times.s a b h)))
def B.ref_gcd.val (q : Int × Int) : Value := .agg #[.int .u64 (q).1, .int .u64 (q).2]
def B.ref_gcd.h : List (Nat × List Nat × Nat) := [(1, [2, 3, 4], 3)]
def B.ref_gcd.e0 (q : Int × Int × Int × Int × Int × Int) : St := { tmps := [.unk, .unk, .ptr 0 0, .ptr 1 0, .ptr 2 0, .unk, .unk, .unk, .unk, .unk, .unk, .unk, .unk, .unk, .unk, .unk, .unk, .unk, .unk], blks := [some ⟨[.val (.int .u64 (q).1), .val (.int .u64 (q).2.1)], 117⟩, some ⟨[.val (.int .u64 (q).2.2.1), .val (.int .u64 (q).2.2.2.1)], 117⟩, some ⟨[.val (.int .u64 (q).2.2.2.2.1), .val (.int .u64 (q).2.2.2.2.2)], 117⟩], saved := [] }
noncomputable def B.ref_gcd.B0 : Code := loopAt [1, 0, 0] (fbody Tryz.f142)
noncomputable def B.ref_gcd.H (F0 : LSum) : Heads := { heads := B.ref_gcd.h, merge := true, sums := [(1, F0)] }
noncomputable def B.ref_gcd.H0  : Heads := { heads := B.ref_gcd.h, merge := true, sums := [] }
noncomputable def B.ref_gcd.K0 (F0 : LSum) : Xt → St → Option Value := kAt P G (tab L_B.ref_times) (B.ref_gcd.H F0) [1, 0, 0] 60 (fbody Tryz.f142) (retK P G Tryz.f142)
def B.ref_gcd.l0.c0 {γ : Type} (k0 : Int × Int × Int × Int × Int × Int → Option γ) (k : Int × Int → Option γ) (b0_0 : Int) (b0_1 : Int) (b1_0 : Int) (b1_1 : Int) (b2_0 : Int) (b2_1 : Int) (t1 : Bool) (t2 : Int × Int × Int × Int) : Option γ := bif !(b1_0 == 0 && (b1_1 == 0 && true))
  then bif t1
   then k0 (b1_0, b1_1, t2.snd.snd.fst, t2.snd.snd.snd, b2_0, b2_1)
   else none
  else k (b0_0, b0_1)
def B.ref_gcd.l0.c {γ : Type} (k0 : Int × Int × Int × Int × Int × Int → Option γ) (k : Int × Int → Option γ) (b0_0 : Int) (b0_1 : Int) (b1_0 : Int) (b1_1 : Int) (b2_0 : Int) (b2_1 : Int) : Option γ := let t1 := B.ref_parted.g b0_0 b0_1 b1_0 b1_1; let t2 := B.ref_parted b0_0 b0_1 b1_0 b1_1; B.ref_gcd.l0.c0 k0 k b0_0 b0_1 b1_0 b1_1 b2_0 b2_1 t1 t2
def B.ref_gcd.c {γ : Type} (k0 : Int × Int × Int × Int × Int × Int → Option γ) (k : Int × Int → Option γ) (a0 : Int) (a1 : Int) (b0 : Int) (b1 : Int) : Option γ := k0 (a0, a1, b0, b1, 0, 0)
def B.ref_gcd.L0 (N : Nat)  : Nat → Int × Int × Int × Int × Int × Int → Option (Int × Int)
  | 0, _ => none
  | m + 1, q => B.ref_gcd.l0.c (B.ref_gcd.L0 N m) some (q).1 (q).2.1 (q).2.2.1 (q).2.2.2.1 (q).2.2.2.2.1 (q).2.2.2.2.2
def B.ref_gcd.o (N : Nat) (a0 : Int) (a1 : Int) (b0 : Int) (b1 : Int) : Option (Int × Int) := B.ref_gcd.c (B.ref_gcd.L0 N  N) some a0 a1 b0 b1
noncomputable def B.ref_gcd.S0 (N : Nat) : LSum := sumN P G (tab L_B.ref_times) (B.ref_gcd.H0 ) 60 B.ref_gcd.B0 N
theorem B.ref_gcd.l0.p0 {γ δ : Type} (f : γ → δ) (k0 : Int × Int × Int × Int × Int × Int → Option γ) (k : Int × Int → Option γ) (b0_0 : Int) (b0_1 : Int) (b1_0 : Int) (b1_1 : Int) (b2_0 : Int) (b2_1 : Int) (t1 : Bool) (t2 : Int × Int × Int × Int) : B.ref_gcd.l0.c0 (fun q => (k0 q).map f) (fun q => (k q).map f) b0_0 b0_1 b1_0 b1_1 b2_0 b2_1 t1 t2 = (B.ref_gcd.l0.c0 k0 k b0_0 b0_1 b1_0 b1_1 b2_0 b2_1 t1 t2).map f := by
  unfold B.ref_gcd.l0.c0; (repeat' (first | (apply pm f) | (exact rfl)))
theorem B.ref_gcd.l0.p {γ δ : Type} (f : γ → δ) (k0 : Int × Int × Int × Int × Int × Int → Option γ) (k : Int × Int → Option γ) (b0_0 : Int) (b0_1 : Int) (b1_0 : Int) (b1_1 : Int) (b2_0 : Int) (b2_1 : Int) : B.ref_gcd.l0.c (fun q => (k0 q).map f) (fun q => (k q).map f) b0_0 b0_1 b1_0 b1_1 b2_0 b2_1 = (B.ref_gcd.l0.c k0 k b0_0 b0_1 b1_0 b1_1 b2_0 b2_1).map f :=
  let t1 := B.ref_parted.g b0_0 b0_1 b1_0 b1_1; let t2 := B.ref_parted b0_0 b0_1 b1_0 b1_1; B.ref_gcd.l0.p0 f k0 k b0_0 b0_1 b1_0 b1_1 b2_0 b2_1 t1 t2
theorem B.ref_gcd.p {γ δ : Type} (f : γ → δ) (k0 : Int × Int × Int × Int × Int × Int → Option γ) (k : Int × Int → Option γ) (a0 : Int) (a1 : Int) (b0 : Int) (b1 : Int) : B.ref_gcd.c (fun q => (k0 q).map f) (fun q => (k q).map f) a0 a1 b0 b1 = (B.ref_gcd.c k0 k a0 a1 b0 b1).map f := by
  unfold B.ref_gcd.c; (repeat' (first | (apply pm f) | (exact rfl)))
theorem B.ref_gcd.S0.ok (N : Nat) : LoopsOK P G (B.ref_gcd.H0 ).sums B.ref_gcd.B0 := by
  refine LoopsOK_code fun i hi F hF => ?_
  have hlen : (loopsOf B.ref_gcd.B0).length = 0 := by kernel_rfl
  rw [hlen] at hi
  omega
theorem B.ref_gcd.S0.snd (N : Nat) : SoundL P G B.ref_gcd.B0 (B.ref_gcd.S0 N) := sumN_sound C.mixed C.names B.ref_times.t (B.ref_gcd.S0.ok N) N
theorem B.ref_gcd.l0.r (F0 G0 : LSum) (b0_0 : Int) (b0_1 : Int) (b1_0 : Int) (b1_1 : Int) (b2_0 : Int) (b2_1 : Int) : ex P G (tab L_B.ref_times) (B.ref_gcd.H0 ) 60 B.ref_gcd.B0 (B.ref_gcd.e0 (b0_0, b0_1, b1_0, b1_1, b2_0, b2_1)) (roundK (B.ref_gcd.H0 ) B.ref_gcd.B0 G0 (B.ref_gcd.K0 F0)) = B.ref_gcd.l0.c (fun q => G0.run (B.ref_gcd.e0 q) (B.ref_gcd.K0 F0)) (fun q => some (B.ref_gcd.val q)) b0_0 b0_1 b1_0 b1_1 b2_0 b2_1 := by kernel_rfl
theorem B.ref_gcd.r (F0 : LSum) (a0 : Int) (a1 : Int) (b0 : Int) (b1 : Int) : runF P G (tab L_B.ref_times) (B.ref_gcd.H F0) 60 Tryz.f142 [.agg #[.int .u64 a0, .int .u64 a1], .agg #[.int .u64 b0, .int .u64 b1]] = B.ref_gcd.c (fun q => F0.run (B.ref_gcd.e0 q) (B.ref_gcd.K0 F0)) (fun q => some (B.ref_gcd.val q)) a0 a1 b0 b1 := by kernel_rfl
theorem B.ref_gcd.L0.ok (N : Nat) (F0 : LSum)   : ∀ m q, (sumN P G (tab L_B.ref_times) (B.ref_gcd.H0 ) 60 B.ref_gcd.B0 m).run (B.ref_gcd.e0 q) (B.ref_gcd.K0 F0) = (B.ref_gcd.L0 N  m q).map B.ref_gcd.val
  | 0, q => rfl
  | m + 1, q => by
    have ih := B.ref_gcd.L0.ok N F0   m
    refine (sumN_run (n := m) rfl).trans ((B.ref_gcd.l0.r F0 (sumN P G (tab L_B.ref_times) (B.ref_gcd.H0 ) 60 B.ref_gcd.B0 m) (q).1 (q).2.1 (q).2.2.1 (q).2.2.2.1 (q).2.2.2.2.1 (q).2.2.2.2.2).trans ?_)
    refine Eq.trans ?_ (B.ref_gcd.l0.p B.ref_gcd.val (B.ref_gcd.L0 N m) some (q).1 (q).2.1 (q).2.2.1 (q).2.2.2.1 (q).2.2.2.2.1 (q).2.2.2.2.2)
    have e0 : (fun q => (sumN P G (tab L_B.ref_times) (B.ref_gcd.H0 ) 60 B.ref_gcd.B0 m).run (B.ref_gcd.e0 q) (B.ref_gcd.K0 F0)) = (fun q => ((B.ref_gcd.L0 N m) q).map B.ref_gcd.val) := funext ih
    rw [e0]; rfl
theorem B.ref_gcd.q (N : Nat) (a0 : Int) (a1 : Int) (b0 : Int) (b1 : Int) : runF P G (tab L_B.ref_times) (B.ref_gcd.H (B.ref_gcd.S0 N)) 60 Tryz.f142 [.agg #[.int .u64 a0, .int .u64 a1], .agg #[.int .u64 b0, .int .u64 b1]] = (B.ref_gcd.o N a0 a1 b0 b1).map B.ref_gcd.val := by
  have hk0 := B.ref_gcd.L0.ok N (B.ref_gcd.S0 N)   N
  refine (B.ref_gcd.r (B.ref_gcd.S0 N) a0 a1 b0 b1).trans ?_
  refine Eq.trans ?_ (B.ref_gcd.p B.ref_gcd.val (B.ref_gcd.L0 N  N) some a0 a1 b0 b1)
  have e0 : (fun q => (B.ref_gcd.S0 N).run (B.ref_gcd.e0 q) (B.ref_gcd.K0 (B.ref_gcd.S0 N))) = (fun q => ((B.ref_gcd.L0 N  N) q).map B.ref_gcd.val) := funext hk0
  rw [e0]; rfl
theorem B.ref_gcd.lok (N : Nat) : LoopsOK P G (B.ref_gcd.H (B.ref_gcd.S0 N)).sums (fbody Tryz.f142) := by
  refine LoopsOK_code fun i hi F hF => ?_
  have hlen : (loopsOf (fbody Tryz.f142)).length = 1 := by kernel_rfl
  rw [hlen] at hi
  match i, hi with
  | 0, _ => exact soundAt (B' := B.ref_gcd.B0) (by kernel_rfl) (by kernel_rfl) (B.ref_gcd.S0.snd N) hF
  | _ + 1, h => omega
def B.ref_gcd (a0 : Int) (a1 : Int) (b0 : Int) (b1 : Int) : Int × Int := hide ((B.ref_gcd.o (b0.toNat * 18446744073709551616 + b1.toNat + 2) a0 a1 b0 b1).getD (0, 0))
def B.ref_gcd.g (a0 : Int) (a1 : Int) (b0 : Int) (b1 : Int) : Bool := hide (B.ref_gcd.o (b0.toNat * 18446744073709551616 + b1.toNat + 2) a0 a1 b0 b1).isSome
theorem B.ref_gcd.s (a0 : Int) (a1 : Int) (b0 : Int) (b1 : Int) (h : B.ref_gcd.g a0 a1 b0 b1 = true) : B.ref_gcd.o (b0.toNat * 18446744073709551616 + b1.toNat + 2) a0 a1 b0 b1 = some (B.ref_gcd a0 a1 b0 b1) := by
  unfold B.ref_gcd.g at h; unfold B.ref_gcd; simp only [hide_eq] at h ⊢; revert h; cases B.ref_gcd.o (b0.toNat * 18446744073709551616 + b1.toNat + 2) a0 a1 b0 b1 <;> simp
def B.ref_gcd.F : FV := mkF (cP (cA (cP (cI .u64) (cP (cI .u64) cU))) (cP (cA (cP (cI .u64) (cP (cI .u64) cU))) cU)) (fun | ((a0, (a1, ())), ((b0, (b1, ())), ())) => B.ref_gcd.g a0 a1 b0 b1) (fun | ((a0, (a1, ())), ((b0, (b1, ())), ())) => B.ref_gcd.val (B.ref_gcd a0 a1 b0 b1))
def L_B.ref_gcd : TL := (142, B.ref_gcd.F) :: L_B.ref_times
theorem B.ref_gcd.t : TabOK P G (tab L_B.ref_gcd) :=
  TabOK_mkH C B.ref_times.t Tryz.func142 (by kernel_rfl) (fun | ((_, (_, ())), ((b0, (b1, ())), ())) => B.ref_gcd.H (B.ref_gcd.S0 (b0.toNat * 18446744073709551616 + b1.toNat + 2))) (by rintro ⟨⟨a0, ⟨a1, ⟨⟩⟩⟩, ⟨⟨b0, ⟨b1, ⟨⟩⟩⟩, ⟨⟩⟩⟩; exact B.ref_gcd.lok _) 60 (by
    rintro ⟨⟨a0, ⟨a1, ⟨⟩⟩⟩, ⟨⟨b0, ⟨b1, ⟨⟩⟩⟩, ⟨⟩⟩⟩ h
    exact (B.ref_gcd.q (b0.toNat * 18446744073709551616 + b1.toNat + 2) a0 a1 b0 b1).trans (congrArg (Option.map B.ref_gcd.val) (B.ref_gcd.s a0 a1 b0 b1 h)))
def B.ref_number.c0 {γ : Type} (k : Int → γ) (a0 : Int) (a1 : Int) (t1 : Int) : γ := k (t1)
def B.ref_number.c {γ : Type} (k : Int → γ) (a0 : Int) (a1 : Int) : γ := let t1 := IntKind.i64.wrap a1; B.ref_number.c0 k a0 a1 t1
def B.ref_number (a0 : Int) (a1 : Int) : Int := B.ref_number.c id a0 a1
def B.ref_number.F : FV := mkF (cP (cA (cP (cI .u64) (cP (cI .u64) cU))) cU) (fun _ => true) (fun | ((a0, (a1, ())), ()) => .int .i64 (B.ref_number a0 a1))
def L_B.ref_number : TL := (131, B.ref_number.F) :: L_B.ref_gcd
theorem B.ref_number.p0 {γ : Type} (k : Int → γ) (a0 : Int) (a1 : Int) (t1 : Int) : B.ref_number.c0 k a0 a1 t1 = k (B.ref_number.c0 id a0 a1 t1) := by
  unfold B.ref_number.c0; (repeat' (first | (apply pc k) | (exact rfl)))
theorem B.ref_number.p {γ : Type} (k : Int → γ) (a0 : Int) (a1 : Int) : B.ref_number.c k a0 a1 = k (B.ref_number a0 a1) :=
  let t1 := IntKind.i64.wrap a1; B.ref_number.p0 k a0 a1 t1
theorem B.ref_number.r (a0 : Int) (a1 : Int) : runF P G (tab L_B.ref_gcd) { merge := true } 60 Tryz.f131 [.agg #[.int .u64 a0, .int .u64 a1]] = B.ref_number.c (fun q => some (.int .i64 (q) : Value)) a0 a1 := by kernel_rfl
theorem B.ref_number.t : TabOK P G (tab L_B.ref_number) :=
  TabOK_mk C B.ref_gcd.t Tryz.func131 (by kernel_rfl) true 60 (by
    rintro ⟨⟨a0, ⟨a1, ⟨⟩⟩⟩, ⟨⟩⟩ h
    exact (B.ref_number.r a0 a1).trans (B.ref_number.p (fun q => some (.int .i64 (q) : Value)) a0 a1))
def B.ref_far.c0 {γ : Type} (k : Int → γ) (a : Int) (t1 : Int) (t2 : Int) : γ := bif decide (a < 0)
  then k (t2)
  else k (t1)
def B.ref_far.c {γ : Type} (k : Int → γ) (a : Int) : γ := let t1 := IntKind.u64.wrap a; let t2 := IntKind.u64.wrap (0 - t1); B.ref_far.c0 k a t1 t2
def B.ref_far (a : Int) : Int := B.ref_far.c id a
def B.ref_far.F : FV := mkF (cP (cI .i64) cU) (fun _ => true) (fun | (a, ()) => .int .u64 (B.ref_far a))
def L_B.ref_far : TL := (167, B.ref_far.F) :: L_B.ref_number
theorem B.ref_far.p0 {γ : Type} (k : Int → γ) (a : Int) (t1 : Int) (t2 : Int) : B.ref_far.c0 k a t1 t2 = k (B.ref_far.c0 id a t1 t2) := by
  unfold B.ref_far.c0; (repeat' (first | (apply pc k) | (exact rfl)))
theorem B.ref_far.p {γ : Type} (k : Int → γ) (a : Int) : B.ref_far.c k a = k (B.ref_far a) :=
  let t1 := IntKind.u64.wrap a; let t2 := IntKind.u64.wrap (0 - t1); B.ref_far.p0 k a t1 t2
theorem B.ref_far.r (a : Int) : runF P G (tab L_B.ref_number) { merge := true } 60 Tryz.f167 [.int .i64 a] = B.ref_far.c (fun q => some (.int .u64 (q) : Value)) a := by kernel_rfl
theorem B.ref_far.t : TabOK P G (tab L_B.ref_far) :=
  TabOK_mk C B.ref_number.t Tryz.func167 (by kernel_rfl) true 60 (by
    rintro ⟨a, ⟨⟩⟩ h
    exact (B.ref_far.r a).trans (B.ref_far.p (fun q => some (.int .u64 (q) : Value)) a))
def B.ref_r.c0 {γ : Type} (n : γ) (k : Int × Int × Bool → γ) (a0 : Int) (a1 : Int) (t1 : Int) (t2 : Int) (t3 : Int × Int) (t4 : Int × Int) : γ := bif a0 == 0
  then k (t3.fst, t3.snd, decide (t1 < 0))
  else bif !decide (a0 = 0)
   then k (t4.fst, t4.snd, false)
   else n
def B.ref_r.c {γ : Type} (n : γ) (k : Int × Int × Bool → γ) (a0 : Int) (a1 : Int) : γ := let t1 := B.ref_number a0 a1; let t2 := B.ref_far t1; let t3 := B.ref_of t2; let t4 := B.ref_of (a1.tmod a0); B.ref_r.c0 n k a0 a1 t1 t2 t3 t4
def B.ref_r.ok (a0 : Int) (a1 : Int) : Bool := B.ref_r.c false (fun _ => true) a0 a1
def B.ref_r (a0 : Int) (a1 : Int) : Int × Int × Bool := B.ref_r.c (0, 0, false) id a0 a1
def B.ref_r.F : FV := mkF (cP (cA (cP (cI .u64) (cP (cI .u64) cU))) cU) (fun | ((a0, (a1, ())), ()) => B.ref_r.ok a0 a1) (fun | ((a0, (a1, ())), ()) => .agg #[.int .u64 (B.ref_r a0 a1).1, .int .u64 (B.ref_r a0 a1).2.1, .bool (B.ref_r a0 a1).2.2])
def L_B.ref_r : TL := (133, B.ref_r.F) :: L_B.ref_far
theorem B.ref_r.p0 {γ : Type} (k : Int × Int × Bool → γ) (a0 : Int) (a1 : Int) (t1 : Int) (t2 : Int) (t3 : Int × Int) (t4 : Int × Int) : B.ref_r.c0 false (fun _ => true) a0 a1 t1 t2 t3 t4 = true → B.ref_r.c0 none (fun q => some (k q)) a0 a1 t1 t2 t3 t4 = some (k (B.ref_r.c0 (0, 0, false) id a0 a1 t1 t2 t3 t4)) := by
  unfold B.ref_r.c0; (repeat' (first | (apply pn k) | (exact pn_none _ _) | (exact pn_leaf k _)))
theorem B.ref_r.p {γ : Type} (k : Int × Int × Bool → γ) (a0 : Int) (a1 : Int) (h : B.ref_r.ok a0 a1 = true) : B.ref_r.c none (fun q => some (k q)) a0 a1 = some (k (B.ref_r a0 a1)) :=
  let t1 := B.ref_number a0 a1; let t2 := B.ref_far t1; let t3 := B.ref_of t2; let t4 := B.ref_of (a1.tmod a0); B.ref_r.p0 k a0 a1 t1 t2 t3 t4 h
theorem B.ref_r.r (a0 : Int) (a1 : Int) : runF P G (tab L_B.ref_far) { merge := true } 60 Tryz.f133 [.agg #[.int .u64 a0, .int .u64 a1]] = B.ref_r.c none (fun q => some (.agg #[.int .u64 (q).1, .int .u64 (q).2.1, .bool (q).2.2] : Value)) a0 a1 := by kernel_rfl
theorem B.ref_r.t : TabOK P G (tab L_B.ref_r) :=
  TabOK_mk C B.ref_far.t Tryz.func133 (by kernel_rfl) true 60 (by
    rintro ⟨⟨a0, ⟨a1, ⟨⟩⟩⟩, ⟨⟩⟩ h
    exact (B.ref_r.r a0 a1).trans (B.ref_r.p (fun q => (.agg #[.int .u64 (q).1, .int .u64 (q).2.1, .bool (q).2.2] : Value)) a0 a1 h))
def B.ref_rest.c0 {γ : Type} (n : γ) (k : Int × Int → γ) (a0 : Int) (a1 : Int) (a2 : Bool) (b0 : Int) (b1 : Int) (t1 : Bool) (t2 : Int × Int × Int × Int) (t3 : Int × Int) : γ := bif t1
  then bif a2
   then bif !(t2.snd.snd.fst == 0 && (t2.snd.snd.snd == 0 && true))
    then k (t3.fst, t3.snd)
    else k (t2.snd.snd.fst, t2.snd.snd.snd)
   else k (t2.snd.snd.fst, t2.snd.snd.snd)
  else n
def B.ref_rest.c {γ : Type} (n : γ) (k : Int × Int → γ) (a0 : Int) (a1 : Int) (a2 : Bool) (b0 : Int) (b1 : Int) : γ := let t1 := B.ref_parted.g a0 a1 b0 b1; let t2 := B.ref_parted a0 a1 b0 b1; let t3 := B.ref_minus b0 b1 t2.snd.snd.fst t2.snd.snd.snd; B.ref_rest.c0 n k a0 a1 a2 b0 b1 t1 t2 t3
def B.ref_rest.ok (a0 : Int) (a1 : Int) (a2 : Bool) (b0 : Int) (b1 : Int) : Bool := B.ref_rest.c false (fun _ => true) a0 a1 a2 b0 b1
def B.ref_rest (a0 : Int) (a1 : Int) (a2 : Bool) (b0 : Int) (b1 : Int) : Int × Int := B.ref_rest.c (0, 0) id a0 a1 a2 b0 b1
def B.ref_rest.F : FV := mkF (cP (cA (cP (cI .u64) (cP (cI .u64) (cP cB cU)))) (cP (cA (cP (cI .u64) (cP (cI .u64) cU))) cU)) (fun | ((a0, (a1, (a2, ()))), ((b0, (b1, ())), ())) => B.ref_rest.ok a0 a1 a2 b0 b1) (fun | ((a0, (a1, (a2, ()))), ((b0, (b1, ())), ())) => .agg #[.int .u64 (B.ref_rest a0 a1 a2 b0 b1).1, .int .u64 (B.ref_rest a0 a1 a2 b0 b1).2])
def L_B.ref_rest : TL := (132, B.ref_rest.F) :: L_B.ref_r
theorem B.ref_rest.p0 {γ : Type} (k : Int × Int → γ) (a0 : Int) (a1 : Int) (a2 : Bool) (b0 : Int) (b1 : Int) (t1 : Bool) (t2 : Int × Int × Int × Int) (t3 : Int × Int) : B.ref_rest.c0 false (fun _ => true) a0 a1 a2 b0 b1 t1 t2 t3 = true → B.ref_rest.c0 none (fun q => some (k q)) a0 a1 a2 b0 b1 t1 t2 t3 = some (k (B.ref_rest.c0 (0, 0) id a0 a1 a2 b0 b1 t1 t2 t3)) := by
  unfold B.ref_rest.c0; (repeat' (first | (apply pn k) | (exact pn_none _ _) | (exact pn_leaf k _)))
theorem B.ref_rest.p {γ : Type} (k : Int × Int → γ) (a0 : Int) (a1 : Int) (a2 : Bool) (b0 : Int) (b1 : Int) (h : B.ref_rest.ok a0 a1 a2 b0 b1 = true) : B.ref_rest.c none (fun q => some (k q)) a0 a1 a2 b0 b1 = some (k (B.ref_rest a0 a1 a2 b0 b1)) :=
  let t1 := B.ref_parted.g a0 a1 b0 b1; let t2 := B.ref_parted a0 a1 b0 b1; let t3 := B.ref_minus b0 b1 t2.snd.snd.fst t2.snd.snd.snd; B.ref_rest.p0 k a0 a1 a2 b0 b1 t1 t2 t3 h
theorem B.ref_rest.r (a0 : Int) (a1 : Int) (a2 : Bool) (b0 : Int) (b1 : Int) : runF P G (tab L_B.ref_r) { merge := true } 60 Tryz.f132 [.agg #[.int .u64 a0, .int .u64 a1, .bool a2], .agg #[.int .u64 b0, .int .u64 b1]] = B.ref_rest.c none (fun q => some (.agg #[.int .u64 (q).1, .int .u64 (q).2] : Value)) a0 a1 a2 b0 b1 := by kernel_rfl
theorem B.ref_rest.t : TabOK P G (tab L_B.ref_rest) :=
  TabOK_mk C B.ref_r.t Tryz.func132 (by kernel_rfl) true 60 (by
    rintro ⟨⟨a0, ⟨a1, ⟨a2, ⟨⟩⟩⟩⟩, ⟨⟨b0, ⟨b1, ⟨⟩⟩⟩, ⟨⟩⟩⟩ h
    exact (B.ref_rest.r a0 a1 a2 b0 b1).trans (B.ref_rest.p (fun q => (.agg #[.int .u64 (q).1, .int .u64 (q).2] : Value)) a0 a1 a2 b0 b1 h))
def B.ref_class.c0 {γ : Type} (n : γ) (k : Int × Int → γ) (a0 : Int) (a1 : Int) (a2 : Bool) (b : Int) (t1 : Int × Int) (t2 : Bool) (t3 : Int × Int) : γ := bif t2
  then k (b, t3.snd)
  else n
def B.ref_class.c {γ : Type} (n : γ) (k : Int × Int → γ) (a0 : Int) (a1 : Int) (a2 : Bool) (b : Int) : γ := let t1 := B.ref_of b; let t2 := B.ref_rest.ok a0 a1 a2 t1.fst t1.snd; let t3 := B.ref_rest a0 a1 a2 t1.fst t1.snd; B.ref_class.c0 n k a0 a1 a2 b t1 t2 t3
def B.ref_class.ok (a0 : Int) (a1 : Int) (a2 : Bool) (b : Int) : Bool := B.ref_class.c false (fun _ => true) a0 a1 a2 b
def B.ref_class (a0 : Int) (a1 : Int) (a2 : Bool) (b : Int) : Int × Int := B.ref_class.c (0, 0) id a0 a1 a2 b
def B.ref_class.F : FV := mkF (cP (cA (cP (cI .u64) (cP (cI .u64) (cP cB cU)))) (cP (cI .u64) cU)) (fun | ((a0, (a1, (a2, ()))), (b, ())) => B.ref_class.ok a0 a1 a2 b) (fun | ((a0, (a1, (a2, ()))), (b, ())) => .agg #[.int .u64 (B.ref_class a0 a1 a2 b).1, .int .u64 (B.ref_class a0 a1 a2 b).2])
def L_B.ref_class : TL := (144, B.ref_class.F) :: L_B.ref_rest
theorem B.ref_class.p0 {γ : Type} (k : Int × Int → γ) (a0 : Int) (a1 : Int) (a2 : Bool) (b : Int) (t1 : Int × Int) (t2 : Bool) (t3 : Int × Int) : B.ref_class.c0 false (fun _ => true) a0 a1 a2 b t1 t2 t3 = true → B.ref_class.c0 none (fun q => some (k q)) a0 a1 a2 b t1 t2 t3 = some (k (B.ref_class.c0 (0, 0) id a0 a1 a2 b t1 t2 t3)) := by
  unfold B.ref_class.c0; (repeat' (first | (apply pn k) | (exact pn_none _ _) | (exact pn_leaf k _)))
theorem B.ref_class.p {γ : Type} (k : Int × Int → γ) (a0 : Int) (a1 : Int) (a2 : Bool) (b : Int) (h : B.ref_class.ok a0 a1 a2 b = true) : B.ref_class.c none (fun q => some (k q)) a0 a1 a2 b = some (k (B.ref_class a0 a1 a2 b)) :=
  let t1 := B.ref_of b; let t2 := B.ref_rest.ok a0 a1 a2 t1.fst t1.snd; let t3 := B.ref_rest a0 a1 a2 t1.fst t1.snd; B.ref_class.p0 k a0 a1 a2 b t1 t2 t3 h
theorem B.ref_class.r (a0 : Int) (a1 : Int) (a2 : Bool) (b : Int) : runF P G (tab L_B.ref_rest) { merge := true } 60 Tryz.f144 [.agg #[.int .u64 a0, .int .u64 a1, .bool a2], .int .u64 b] = B.ref_class.c none (fun q => some (.agg #[.int .u64 (q).1, .int .u64 (q).2] : Value)) a0 a1 a2 b := by kernel_rfl
theorem B.ref_class.t : TabOK P G (tab L_B.ref_class) :=
  TabOK_mk C B.ref_rest.t Tryz.func144 (by kernel_rfl) true 60 (by
    rintro ⟨⟨a0, ⟨a1, ⟨a2, ⟨⟩⟩⟩⟩, ⟨b, ⟨⟩⟩⟩ h
    exact (B.ref_class.r a0 a1 a2 b).trans (B.ref_class.p (fun q => (.agg #[.int .u64 (q).1, .int .u64 (q).2] : Value)) a0 a1 a2 b h))
def B.ref_Norm.c {γ : Type} (n : γ) (k : Int × Int → γ) (a0 : Int) (a1 : Int) : γ := bif decide (a0 > 0)
  then bif !decide (a0 = 0)
   then k (a0, a1.tmod a0)
   else n
  else k (a0, a1)
def B.ref_Norm.ok (a0 : Int) (a1 : Int) : Bool := B.ref_Norm.c false (fun _ => true) a0 a1
def B.ref_Norm (a0 : Int) (a1 : Int) : Int × Int := B.ref_Norm.c (0, 0) id a0 a1
def B.ref_Norm.F : FV := mkF (cP (cA (cP (cI .u64) (cP (cI .u64) cU))) cU) (fun _ => true) (fun | ((a0, (a1, ())), ()) => .agg #[.int .u64 (B.ref_Norm a0 a1).1, .int .u64 (B.ref_Norm a0 a1).2])
def L_B.ref_Norm : TL := (62, B.ref_Norm.F) :: L_B.ref_class
theorem B.ref_Norm.okt (a0 : Int) (a1 : Int) : B.ref_Norm.ok a0 a1 = true := by
  unfold B.ref_Norm.ok B.ref_Norm.c; by_cases h : a0 = 0 <;> simp [h] <;> omega
theorem B.ref_Norm.p {γ : Type} (k : Int × Int → γ) (a0 : Int) (a1 : Int) (h : B.ref_Norm.ok a0 a1 = true) : B.ref_Norm.c none (fun q => some (k q)) a0 a1 = some (k (B.ref_Norm a0 a1)) := by
  revert h; unfold B.ref_Norm B.ref_Norm.ok B.ref_Norm.c; (repeat' (first | (apply pn k) | (exact pn_none _ _) | (exact pn_leaf k _)))
theorem B.ref_Norm.r (a0 : Int) (a1 : Int) : runF P G (tab L_B.ref_class) { merge := true } 60 Tryz.f62 [.agg #[.int .u64 a0, .int .u64 a1]] = B.ref_Norm.c none (fun q => some (.agg #[.int .u64 (q).1, .int .u64 (q).2] : Value)) a0 a1 := by kernel_rfl
theorem B.ref_Norm.t : TabOK P G (tab L_B.ref_Norm) :=
  TabOK_mk C B.ref_class.t Tryz.func62 (by kernel_rfl) true 60 (by
    rintro ⟨⟨a0, ⟨a1, ⟨⟩⟩⟩, ⟨⟩⟩ h
    exact (B.ref_Norm.r a0 a1).trans (B.ref_Norm.p (fun q => (.agg #[.int .u64 (q).1, .int .u64 (q).2] : Value)) a0 a1 (B.ref_Norm.okt a0 a1)))
def B.ref_Const.c0 {γ : Type} (k : Int × Int → γ) (a : Int) (t1 : Int) : γ := k (0, t1)
def B.ref_Const.c {γ : Type} (k : Int × Int → γ) (a : Int) : γ := let t1 := IntKind.u64.wrap a; B.ref_Const.c0 k a t1
def B.ref_Const (a : Int) : Int × Int := B.ref_Const.c id a
def B.ref_Const.F : FV := mkF (cP (cI .i64) cU) (fun _ => true) (fun | (a, ()) => .agg #[.int .u64 (B.ref_Const a).1, .int .u64 (B.ref_Const a).2])
def L_B.ref_Const : TL := (63, B.ref_Const.F) :: L_B.ref_Norm
theorem B.ref_Const.p0 {γ : Type} (k : Int × Int → γ) (a : Int) (t1 : Int) : B.ref_Const.c0 k a t1 = k (B.ref_Const.c0 id a t1) := by
  unfold B.ref_Const.c0; (repeat' (first | (apply pc k) | (exact rfl)))
theorem B.ref_Const.p {γ : Type} (k : Int × Int → γ) (a : Int) : B.ref_Const.c k a = k (B.ref_Const a) :=
  let t1 := IntKind.u64.wrap a; B.ref_Const.p0 k a t1
theorem B.ref_Const.r (a : Int) : runF P G (tab L_B.ref_Norm) { merge := true } 60 Tryz.f63 [.int .i64 a] = B.ref_Const.c (fun q => some (.agg #[.int .u64 (q).1, .int .u64 (q).2] : Value)) a := by kernel_rfl
theorem B.ref_Const.t : TabOK P G (tab L_B.ref_Const) :=
  TabOK_mk C B.ref_Norm.t Tryz.func63 (by kernel_rfl) true 60 (by
    rintro ⟨a, ⟨⟩⟩ h
    exact (B.ref_Const.r a).trans (B.ref_Const.p (fun q => some (.agg #[.int .u64 (q).1, .int .u64 (q).2] : Value)) a))
def B.ref_Leq.c0 {γ : Type} (n : γ) (k : Bool → γ) (a0 : Int) (a1 : Int) (b0 : Int) (b1 : Int) (t1 : Bool) (t2 : Int × Int × Bool) (t3 : Int × Int) (t4 : Bool) (t5 : Bool) (t6 : Int × Int × Bool) (t7 : Bool) (t8 : Int × Int) (t9 : Int × Int) : γ := bif b0 == 0
  then bif a0 == 0
   then k (a1 == b1)
   else k (false)
  else bif !decide (b0 = 0)
   then bif a0.tmod b0 == 0
    then bif t1
     then bif t4
      then bif t5
       then bif t7
        then k (t8.fst == t9.fst && (t8.snd == t9.snd && true))
        else n
       else n
      else n
     else n
    else k (false)
   else n
def B.ref_Leq.c {γ : Type} (n : γ) (k : Bool → γ) (a0 : Int) (a1 : Int) (b0 : Int) (b1 : Int) : γ := let t1 := B.ref_r.ok a0 a1; let t2 := B.ref_r a0 a1; let t3 := B.ref_of b0; let t4 := B.ref_rest.ok t2.fst t2.snd.fst t2.snd.snd t3.fst t3.snd; let t5 := B.ref_r.ok b0 b1; let t6 := B.ref_r b0 b1; let t7 := B.ref_rest.ok t6.fst t6.snd.fst t6.snd.snd t3.fst t3.snd; let t8 := B.ref_rest t2.fst t2.snd.fst t2.snd.snd t3.fst t3.snd; let t9 := B.ref_rest t6.fst t6.snd.fst t6.snd.snd t3.fst t3.snd; B.ref_Leq.c0 n k a0 a1 b0 b1 t1 t2 t3 t4 t5 t6 t7 t8 t9
def B.ref_Leq.ok (a0 : Int) (a1 : Int) (b0 : Int) (b1 : Int) : Bool := B.ref_Leq.c false (fun _ => true) a0 a1 b0 b1
def B.ref_Leq (a0 : Int) (a1 : Int) (b0 : Int) (b1 : Int) : Bool := B.ref_Leq.c (false) id a0 a1 b0 b1
def B.ref_Leq.F : FV := mkF (cP (cA (cP (cI .u64) (cP (cI .u64) cU))) (cP (cA (cP (cI .u64) (cP (cI .u64) cU))) cU)) (fun | ((a0, (a1, ())), ((b0, (b1, ())), ())) => B.ref_Leq.ok a0 a1 b0 b1) (fun | ((a0, (a1, ())), ((b0, (b1, ())), ())) => .bool (B.ref_Leq a0 a1 b0 b1))
def L_B.ref_Leq : TL := (72, B.ref_Leq.F) :: L_B.ref_Const
theorem B.ref_Leq.p0 {γ : Type} (k : Bool → γ) (a0 : Int) (a1 : Int) (b0 : Int) (b1 : Int) (t1 : Bool) (t2 : Int × Int × Bool) (t3 : Int × Int) (t4 : Bool) (t5 : Bool) (t6 : Int × Int × Bool) (t7 : Bool) (t8 : Int × Int) (t9 : Int × Int) : B.ref_Leq.c0 false (fun _ => true) a0 a1 b0 b1 t1 t2 t3 t4 t5 t6 t7 t8 t9 = true → B.ref_Leq.c0 none (fun q => some (k q)) a0 a1 b0 b1 t1 t2 t3 t4 t5 t6 t7 t8 t9 = some (k (B.ref_Leq.c0 (false) id a0 a1 b0 b1 t1 t2 t3 t4 t5 t6 t7 t8 t9)) := by
  unfold B.ref_Leq.c0; (repeat' (first | (apply pn k) | (exact pn_none _ _) | (exact pn_leaf k _)))
theorem B.ref_Leq.p {γ : Type} (k : Bool → γ) (a0 : Int) (a1 : Int) (b0 : Int) (b1 : Int) (h : B.ref_Leq.ok a0 a1 b0 b1 = true) : B.ref_Leq.c none (fun q => some (k q)) a0 a1 b0 b1 = some (k (B.ref_Leq a0 a1 b0 b1)) :=
  let t1 := B.ref_r.ok a0 a1; let t2 := B.ref_r a0 a1; let t3 := B.ref_of b0; let t4 := B.ref_rest.ok t2.fst t2.snd.fst t2.snd.snd t3.fst t3.snd; let t5 := B.ref_r.ok b0 b1; let t6 := B.ref_r b0 b1; let t7 := B.ref_rest.ok t6.fst t6.snd.fst t6.snd.snd t3.fst t3.snd; let t8 := B.ref_rest t2.fst t2.snd.fst t2.snd.snd t3.fst t3.snd; let t9 := B.ref_rest t6.fst t6.snd.fst t6.snd.snd t3.fst t3.snd; B.ref_Leq.p0 k a0 a1 b0 b1 t1 t2 t3 t4 t5 t6 t7 t8 t9 h
theorem B.ref_Leq.r (a0 : Int) (a1 : Int) (b0 : Int) (b1 : Int) : runF P G (tab L_B.ref_Const) { merge := true } 60 Tryz.f72 [.agg #[.int .u64 a0, .int .u64 a1], .agg #[.int .u64 b0, .int .u64 b1]] = B.ref_Leq.c none (fun q => some (.bool (q) : Value)) a0 a1 b0 b1 := by kernel_rfl
theorem B.ref_Leq.t : TabOK P G (tab L_B.ref_Leq) :=
  TabOK_mk C B.ref_Const.t Tryz.func72 (by kernel_rfl) true 60 (by
    rintro ⟨⟨a0, ⟨a1, ⟨⟩⟩⟩, ⟨⟨b0, ⟨b1, ⟨⟩⟩⟩, ⟨⟩⟩⟩ h
    exact (B.ref_Leq.r a0 a1 b0 b1).trans (B.ref_Leq.p (fun q => (.bool (q) : Value)) a0 a1 b0 b1 h))
def B.ref_Has.c0 {γ : Type} (n : γ) (k : Bool → γ) (a0 : Int) (a1 : Int) (b : Int) (t1 : Int × Int) (t2 : Bool) (t3 : Bool) : γ := bif t2
  then k (t3)
  else n
def B.ref_Has.c {γ : Type} (n : γ) (k : Bool → γ) (a0 : Int) (a1 : Int) (b : Int) : γ := let t1 := B.ref_Const b; let t2 := B.ref_Leq.ok t1.fst t1.snd a0 a1; let t3 := B.ref_Leq t1.fst t1.snd a0 a1; B.ref_Has.c0 n k a0 a1 b t1 t2 t3
def B.ref_Has.ok (a0 : Int) (a1 : Int) (b : Int) : Bool := B.ref_Has.c false (fun _ => true) a0 a1 b
def B.ref_Has (a0 : Int) (a1 : Int) (b : Int) : Bool := B.ref_Has.c (false) id a0 a1 b
def B.ref_Has.F : FV := mkF (cP (cA (cP (cI .u64) (cP (cI .u64) cU))) (cP (cI .i64) cU)) (fun | ((a0, (a1, ())), (b, ())) => B.ref_Has.ok a0 a1 b) (fun | ((a0, (a1, ())), (b, ())) => .bool (B.ref_Has a0 a1 b))
def L_B.ref_Has : TL := (68, B.ref_Has.F) :: L_B.ref_Leq
theorem B.ref_Has.p0 {γ : Type} (k : Bool → γ) (a0 : Int) (a1 : Int) (b : Int) (t1 : Int × Int) (t2 : Bool) (t3 : Bool) : B.ref_Has.c0 false (fun _ => true) a0 a1 b t1 t2 t3 = true → B.ref_Has.c0 none (fun q => some (k q)) a0 a1 b t1 t2 t3 = some (k (B.ref_Has.c0 (false) id a0 a1 b t1 t2 t3)) := by
  unfold B.ref_Has.c0; (repeat' (first | (apply pn k) | (exact pn_none _ _) | (exact pn_leaf k _)))
theorem B.ref_Has.p {γ : Type} (k : Bool → γ) (a0 : Int) (a1 : Int) (b : Int) (h : B.ref_Has.ok a0 a1 b = true) : B.ref_Has.c none (fun q => some (k q)) a0 a1 b = some (k (B.ref_Has a0 a1 b)) :=
  let t1 := B.ref_Const b; let t2 := B.ref_Leq.ok t1.fst t1.snd a0 a1; let t3 := B.ref_Leq t1.fst t1.snd a0 a1; B.ref_Has.p0 k a0 a1 b t1 t2 t3 h
theorem B.ref_Has.r (a0 : Int) (a1 : Int) (b : Int) : runF P G (tab L_B.ref_Leq) { merge := true } 60 Tryz.f68 [.agg #[.int .u64 a0, .int .u64 a1], .int .i64 b] = B.ref_Has.c none (fun q => some (.bool (q) : Value)) a0 a1 b := by kernel_rfl
theorem B.ref_Has.t : TabOK P G (tab L_B.ref_Has) :=
  TabOK_mk C B.ref_Leq.t Tryz.func68 (by kernel_rfl) true 60 (by
    rintro ⟨⟨a0, ⟨a1, ⟨⟩⟩⟩, ⟨b, ⟨⟩⟩⟩ h
    exact (B.ref_Has.r a0 a1 b).trans (B.ref_Has.p (fun q => (.bool (q) : Value)) a0 a1 b h))
def B.ref_apart.c0 {γ : Type} (k : Int × Int → γ) (a0 : Int) (a1 : Int) (a2 : Bool) (b0 : Int) (b1 : Int) (b2 : Bool) (t1 : Bool) (t2 : Int × Int) (t3 : Int × Int) (t4 : Int × Int) (t5 : Int × Int) : γ := bif a2 == b2
  then bif t1
   then k (t2.fst, t2.snd)
   else k (t3.fst, t3.snd)
  else k (t5.fst, t5.snd)
def B.ref_apart.c {γ : Type} (k : Int × Int → γ) (a0 : Int) (a1 : Int) (a2 : Bool) (b0 : Int) (b1 : Int) (b2 : Bool) : γ := let t1 := B.ref_less a0 a1 b0 b1; let t2 := B.ref_minus b0 b1 a0 a1; let t3 := B.ref_minus a0 a1 b0 b1; let t4 := B.ref_minus 0 0 b0 b1; let t5 := B.ref_minus a0 a1 t4.fst t4.snd; B.ref_apart.c0 k a0 a1 a2 b0 b1 b2 t1 t2 t3 t4 t5
def B.ref_apart (a0 : Int) (a1 : Int) (a2 : Bool) (b0 : Int) (b1 : Int) (b2 : Bool) : Int × Int := B.ref_apart.c id a0 a1 a2 b0 b1 b2
def B.ref_apart.F : FV := mkF (cP (cA (cP (cI .u64) (cP (cI .u64) (cP cB cU)))) (cP (cA (cP (cI .u64) (cP (cI .u64) (cP cB cU)))) cU)) (fun _ => true) (fun | ((a0, (a1, (a2, ()))), ((b0, (b1, (b2, ()))), ())) => .agg #[.int .u64 (B.ref_apart a0 a1 a2 b0 b1 b2).1, .int .u64 (B.ref_apart a0 a1 a2 b0 b1 b2).2])
def L_B.ref_apart : TL := (143, B.ref_apart.F) :: L_B.ref_Has
theorem B.ref_apart.p0 {γ : Type} (k : Int × Int → γ) (a0 : Int) (a1 : Int) (a2 : Bool) (b0 : Int) (b1 : Int) (b2 : Bool) (t1 : Bool) (t2 : Int × Int) (t3 : Int × Int) (t4 : Int × Int) (t5 : Int × Int) : B.ref_apart.c0 k a0 a1 a2 b0 b1 b2 t1 t2 t3 t4 t5 = k (B.ref_apart.c0 id a0 a1 a2 b0 b1 b2 t1 t2 t3 t4 t5) := by
  unfold B.ref_apart.c0; (repeat' (first | (apply pc k) | (exact rfl)))
theorem B.ref_apart.p {γ : Type} (k : Int × Int → γ) (a0 : Int) (a1 : Int) (a2 : Bool) (b0 : Int) (b1 : Int) (b2 : Bool) : B.ref_apart.c k a0 a1 a2 b0 b1 b2 = k (B.ref_apart a0 a1 a2 b0 b1 b2) :=
  let t1 := B.ref_less a0 a1 b0 b1; let t2 := B.ref_minus b0 b1 a0 a1; let t3 := B.ref_minus a0 a1 b0 b1; let t4 := B.ref_minus 0 0 b0 b1; let t5 := B.ref_minus a0 a1 t4.fst t4.snd; B.ref_apart.p0 k a0 a1 a2 b0 b1 b2 t1 t2 t3 t4 t5
theorem B.ref_apart.r (a0 : Int) (a1 : Int) (a2 : Bool) (b0 : Int) (b1 : Int) (b2 : Bool) : runF P G (tab L_B.ref_Has) { merge := true } 60 Tryz.f143 [.agg #[.int .u64 a0, .int .u64 a1, .bool a2], .agg #[.int .u64 b0, .int .u64 b1, .bool b2]] = B.ref_apart.c (fun q => some (.agg #[.int .u64 (q).1, .int .u64 (q).2] : Value)) a0 a1 a2 b0 b1 b2 := by kernel_rfl
theorem B.ref_apart.t : TabOK P G (tab L_B.ref_apart) :=
  TabOK_mk C B.ref_Has.t Tryz.func143 (by kernel_rfl) true 60 (by
    rintro ⟨⟨a0, ⟨a1, ⟨a2, ⟨⟩⟩⟩⟩, ⟨⟨b0, ⟨b1, ⟨b2, ⟨⟩⟩⟩⟩, ⟨⟩⟩⟩ h
    exact (B.ref_apart.r a0 a1 a2 b0 b1 b2).trans (B.ref_apart.p (fun q => some (.agg #[.int .u64 (q).1, .int .u64 (q).2] : Value)) a0 a1 a2 b0 b1 b2))
def B.ref_Join.c0 {γ : Type} (n : γ) (k : Int × Int → γ) (a0 : Int) (a1 : Int) (b0 : Int) (b1 : Int) (t1 : Int × Int) (t2 : Int × Int) (t3 : Bool) (t4 : Bool) (t5 : Bool) (t6 : Int × Int) (t7 : Int × Int × Bool) (t8 : Int × Int × Bool) (t9 : Int × Int) (t10 : Bool) (t11 : Int × Int) (t12 : Int × Int) (t13 : Bool) (t14 : Int × Int) : γ := bif t3
  then bif t4
   then bif t5
    then bif t10
     then bif t11.fst == 0 && (t11.snd == 0 && true)
      then k (t12.fst, t12.snd)
      else bif t4
       then bif t13
        then k (t14.fst, t14.snd)
        else n
       else n
     else n
    else n
   else n
  else n
def B.ref_Join.c {γ : Type} (n : γ) (k : Int × Int → γ) (a0 : Int) (a1 : Int) (b0 : Int) (b1 : Int) : γ := let t1 := B.ref_of a0; let t2 := B.ref_of b0; let t3 := B.ref_gcd.g t1.fst t1.snd t2.fst t2.snd; let t4 := B.ref_r.ok a0 a1; let t5 := B.ref_r.ok b0 b1; let t6 := B.ref_gcd t1.fst t1.snd t2.fst t2.snd; let t7 := B.ref_r a0 a1; let t8 := B.ref_r b0 b1; let t9 := B.ref_apart t7.fst t7.snd.fst t7.snd.snd t8.fst t8.snd.fst t8.snd.snd; let t10 := B.ref_gcd.g t6.fst t6.snd t9.fst t9.snd; let t11 := B.ref_gcd t6.fst t6.snd t9.fst t9.snd; let t12 := B.ref_Norm a0 a1; let t13 := B.ref_class.ok t7.fst t7.snd.fst t7.snd.snd t11.snd; let t14 := B.ref_class t7.fst t7.snd.fst t7.snd.snd t11.snd; B.ref_Join.c0 n k a0 a1 b0 b1 t1 t2 t3 t4 t5 t6 t7 t8 t9 t10 t11 t12 t13 t14
def B.ref_Join.ok (a0 : Int) (a1 : Int) (b0 : Int) (b1 : Int) : Bool := B.ref_Join.c false (fun _ => true) a0 a1 b0 b1
def B.ref_Join (a0 : Int) (a1 : Int) (b0 : Int) (b1 : Int) : Int × Int := B.ref_Join.c (0, 0) id a0 a1 b0 b1
def B.ref_Join.F : FV := mkF (cP (cA (cP (cI .u64) (cP (cI .u64) cU))) (cP (cA (cP (cI .u64) (cP (cI .u64) cU))) cU)) (fun | ((a0, (a1, ())), ((b0, (b1, ())), ())) => B.ref_Join.ok a0 a1 b0 b1) (fun | ((a0, (a1, ())), ((b0, (b1, ())), ())) => .agg #[.int .u64 (B.ref_Join a0 a1 b0 b1).1, .int .u64 (B.ref_Join a0 a1 b0 b1).2])
def L_B.ref_Join : TL := (76, B.ref_Join.F) :: L_B.ref_apart
theorem B.ref_Join.p0 {γ : Type} (k : Int × Int → γ) (a0 : Int) (a1 : Int) (b0 : Int) (b1 : Int) (t1 : Int × Int) (t2 : Int × Int) (t3 : Bool) (t4 : Bool) (t5 : Bool) (t6 : Int × Int) (t7 : Int × Int × Bool) (t8 : Int × Int × Bool) (t9 : Int × Int) (t10 : Bool) (t11 : Int × Int) (t12 : Int × Int) (t13 : Bool) (t14 : Int × Int) : B.ref_Join.c0 false (fun _ => true) a0 a1 b0 b1 t1 t2 t3 t4 t5 t6 t7 t8 t9 t10 t11 t12 t13 t14 = true → B.ref_Join.c0 none (fun q => some (k q)) a0 a1 b0 b1 t1 t2 t3 t4 t5 t6 t7 t8 t9 t10 t11 t12 t13 t14 = some (k (B.ref_Join.c0 (0, 0) id a0 a1 b0 b1 t1 t2 t3 t4 t5 t6 t7 t8 t9 t10 t11 t12 t13 t14)) := by
  unfold B.ref_Join.c0; (repeat' (first | (apply pn k) | (exact pn_none _ _) | (exact pn_leaf k _)))
theorem B.ref_Join.p {γ : Type} (k : Int × Int → γ) (a0 : Int) (a1 : Int) (b0 : Int) (b1 : Int) (h : B.ref_Join.ok a0 a1 b0 b1 = true) : B.ref_Join.c none (fun q => some (k q)) a0 a1 b0 b1 = some (k (B.ref_Join a0 a1 b0 b1)) :=
  let t1 := B.ref_of a0; let t2 := B.ref_of b0; let t3 := B.ref_gcd.g t1.fst t1.snd t2.fst t2.snd; let t4 := B.ref_r.ok a0 a1; let t5 := B.ref_r.ok b0 b1; let t6 := B.ref_gcd t1.fst t1.snd t2.fst t2.snd; let t7 := B.ref_r a0 a1; let t8 := B.ref_r b0 b1; let t9 := B.ref_apart t7.fst t7.snd.fst t7.snd.snd t8.fst t8.snd.fst t8.snd.snd; let t10 := B.ref_gcd.g t6.fst t6.snd t9.fst t9.snd; let t11 := B.ref_gcd t6.fst t6.snd t9.fst t9.snd; let t12 := B.ref_Norm a0 a1; let t13 := B.ref_class.ok t7.fst t7.snd.fst t7.snd.snd t11.snd; let t14 := B.ref_class t7.fst t7.snd.fst t7.snd.snd t11.snd; B.ref_Join.p0 k a0 a1 b0 b1 t1 t2 t3 t4 t5 t6 t7 t8 t9 t10 t11 t12 t13 t14 h
theorem B.ref_Join.r (a0 : Int) (a1 : Int) (b0 : Int) (b1 : Int) : runF P G (tab L_B.ref_apart) { merge := true } 60 Tryz.f76 [.agg #[.int .u64 a0, .int .u64 a1], .agg #[.int .u64 b0, .int .u64 b1]] = B.ref_Join.c none (fun q => some (.agg #[.int .u64 (q).1, .int .u64 (q).2] : Value)) a0 a1 b0 b1 := by kernel_rfl
theorem B.ref_Join.t : TabOK P G (tab L_B.ref_Join) :=
  TabOK_mk C B.ref_apart.t Tryz.func76 (by kernel_rfl) true 60 (by
    rintro ⟨⟨a0, ⟨a1, ⟨⟩⟩⟩, ⟨⟨b0, ⟨b1, ⟨⟩⟩⟩, ⟨⟩⟩⟩ h
    exact (B.ref_Join.r a0 a1 b0 b1).trans (B.ref_Join.p (fun q => (.agg #[.int .u64 (q).1, .int .u64 (q).2] : Value)) a0 a1 b0 b1 h))
def B.ref_addMod.c0 {γ : Type} (k : Int → γ) (a : Int) (b : Int) (c : Int) (t1 : Int) (t2 : Int) (t3 : Int) : γ := bif decide (a ≥ t1)
  then k (t2)
  else k (t3)
def B.ref_addMod.c {γ : Type} (k : Int → γ) (a : Int) (b : Int) (c : Int) : γ := let t1 := IntKind.u64.wrap (c - b); let t2 := IntKind.u64.wrap (a - t1); let t3 := IntKind.u64.wrap (a + b); B.ref_addMod.c0 k a b c t1 t2 t3
def B.ref_addMod (a : Int) (b : Int) (c : Int) : Int := B.ref_addMod.c id a b c
def B.ref_addMod.F : FV := mkF (cP (cI .u64) (cP (cI .u64) (cP (cI .u64) cU))) (fun _ => true) (fun | (a, (b, (c, ()))) => .int .u64 (B.ref_addMod a b c))
def L_B.ref_addMod : TL := (135, B.ref_addMod.F) :: L_B.ref_Join
theorem B.ref_addMod.p0 {γ : Type} (k : Int → γ) (a : Int) (b : Int) (c : Int) (t1 : Int) (t2 : Int) (t3 : Int) : B.ref_addMod.c0 k a b c t1 t2 t3 = k (B.ref_addMod.c0 id a b c t1 t2 t3) := by
  unfold B.ref_addMod.c0; (repeat' (first | (apply pc k) | (exact rfl)))
theorem B.ref_addMod.p {γ : Type} (k : Int → γ) (a : Int) (b : Int) (c : Int) : B.ref_addMod.c k a b c = k (B.ref_addMod a b c) :=
  let t1 := IntKind.u64.wrap (c - b); let t2 := IntKind.u64.wrap (a - t1); let t3 := IntKind.u64.wrap (a + b); B.ref_addMod.p0 k a b c t1 t2 t3
theorem B.ref_addMod.r (a : Int) (b : Int) (c : Int) : runF P G (tab L_B.ref_Join) { merge := true } 60 Tryz.f135 [.int .u64 a, .int .u64 b, .int .u64 c] = B.ref_addMod.c (fun q => some (.int .u64 (q) : Value)) a b c := by kernel_rfl
theorem B.ref_addMod.t : TabOK P G (tab L_B.ref_addMod) :=
  TabOK_mk C B.ref_Join.t Tryz.func135 (by kernel_rfl) true 60 (by
    rintro ⟨a, ⟨b, ⟨c, ⟨⟩⟩⟩⟩ h
    exact (B.ref_addMod.r a b c).trans (B.ref_addMod.p (fun q => some (.int .u64 (q) : Value)) a b c))
def B.ref_timesMod.c0 {γ : Type} (n : γ) (k : Int → γ) (a : Int) (b : Int) (c : Int) (t1 : Bool) (t2 : Int × Int) (t3 : Int × Int) (t4 : Bool) (t5 : Int × Int × Int × Int) : γ := bif t1
  then bif t4
   then k (t5.snd.snd.snd)
   else n
  else n
def B.ref_timesMod.c {γ : Type} (n : γ) (k : Int → γ) (a : Int) (b : Int) (c : Int) : γ := let t1 := B.ref_times.g a b; let t2 := B.ref_times a b; let t3 := B.ref_of c; let t4 := B.ref_parted.g t2.fst t2.snd t3.fst t3.snd; let t5 := B.ref_parted t2.fst t2.snd t3.fst t3.snd; B.ref_timesMod.c0 n k a b c t1 t2 t3 t4 t5
def B.ref_timesMod.ok (a : Int) (b : Int) (c : Int) : Bool := B.ref_timesMod.c false (fun _ => true) a b c
def B.ref_timesMod (a : Int) (b : Int) (c : Int) : Int := B.ref_timesMod.c (0) id a b c
def B.ref_timesMod.F : FV := mkF (cP (cI .u64) (cP (cI .u64) (cP (cI .u64) cU))) (fun | (a, (b, (c, ()))) => B.ref_timesMod.ok a b c) (fun | (a, (b, (c, ()))) => .int .u64 (B.ref_timesMod a b c))
def L_B.ref_timesMod : TL := (151, B.ref_timesMod.F) :: L_B.ref_addMod
theorem B.ref_timesMod.p0 {γ : Type} (k : Int → γ) (a : Int) (b : Int) (c : Int) (t1 : Bool) (t2 : Int × Int) (t3 : Int × Int) (t4 : Bool) (t5 : Int × Int × Int × Int) : B.ref_timesMod.c0 false (fun _ => true) a b c t1 t2 t3 t4 t5 = true → B.ref_timesMod.c0 none (fun q => some (k q)) a b c t1 t2 t3 t4 t5 = some (k (B.ref_timesMod.c0 (0) id a b c t1 t2 t3 t4 t5)) := by
  unfold B.ref_timesMod.c0; (repeat' (first | (apply pn k) | (exact pn_none _ _) | (exact pn_leaf k _)))
theorem B.ref_timesMod.p {γ : Type} (k : Int → γ) (a : Int) (b : Int) (c : Int) (h : B.ref_timesMod.ok a b c = true) : B.ref_timesMod.c none (fun q => some (k q)) a b c = some (k (B.ref_timesMod a b c)) :=
  let t1 := B.ref_times.g a b; let t2 := B.ref_times a b; let t3 := B.ref_of c; let t4 := B.ref_parted.g t2.fst t2.snd t3.fst t3.snd; let t5 := B.ref_parted t2.fst t2.snd t3.fst t3.snd; B.ref_timesMod.p0 k a b c t1 t2 t3 t4 t5 h
theorem B.ref_timesMod.r (a : Int) (b : Int) (c : Int) : runF P G (tab L_B.ref_addMod) { merge := true } 60 Tryz.f151 [.int .u64 a, .int .u64 b, .int .u64 c] = B.ref_timesMod.c none (fun q => some (.int .u64 (q) : Value)) a b c := by kernel_rfl
theorem B.ref_timesMod.t : TabOK P G (tab L_B.ref_timesMod) :=
  TabOK_mk C B.ref_addMod.t Tryz.func151 (by kernel_rfl) true 60 (by
    rintro ⟨a, ⟨b, ⟨c, ⟨⟩⟩⟩⟩ h
    exact (B.ref_timesMod.r a b c).trans (B.ref_timesMod.p (fun q => (.int .u64 (q) : Value)) a b c h))
def B.ref_inverse.val (q : Int) : Value := .int .u64 (q)
def B.ref_inverse.h : List (Nat × List Nat × Nat) := [(3, [1, 5, 6, 7, 8], 0)]
def B.ref_inverse.e0 (q : Int × Int × Int × Int × Int) : St := { tmps := [.unk, .val (.int .u64 (q).1), .unk, .unk, .unk, .val (.int .u64 (q).2.1), .val (.int .u64 (q).2.2.1), .val (.int .u64 (q).2.2.2.1), .val (.int .u64 (q).2.2.2.2), .unk, .unk, .unk, .unk, .unk, .unk, .unk, .unk, .unk, .unk, .unk, .unk, .unk, .unk, .unk, .unk, .unk, .unk, .unk, .unk, .unk, .unk, .unk, .unk, .unk, .unk, .unk, .unk, .unk], blks := [], saved := [] }
noncomputable def B.ref_inverse.B0 : Code := loopAt [1, 1, 1, 0, 0] (fbody Tryz.f152)
noncomputable def B.ref_inverse.H (F0 : LSum) : Heads := { heads := B.ref_inverse.h, merge := true, sums := [(3, F0)] }
noncomputable def B.ref_inverse.H0  : Heads := { heads := B.ref_inverse.h, merge := true, sums := [] }
noncomputable def B.ref_inverse.K0 (F0 : LSum) : Xt → St → Option Value := kAt P G (tab L_B.ref_timesMod) (B.ref_inverse.H F0) [1, 1, 1, 0, 0] 60 (fbody Tryz.f152) (retK P G Tryz.f152)
def B.ref_inverse.l0.c0 {γ : Type} (k0 : Int × Int × Int × Int × Int → Option γ) (k : Int → Option γ) (s1 : Int) (s5 : Int) (s6 : Int) (s7 : Int) (s8 : Int) (t1 : Int) (t2 : Bool) (t3 : Int) (t4 : Int) (t5 : Int) (t6 : Int) (t7 : Int) : Option γ := bif decide (s8 > 0)
  then bif !decide (s8 = 0)
   then bif !decide (s1 = 0)
    then bif t2
     then k0 (s1, s6, t5, s8, t7)
     else none
    else none
   else none
  else k (s5)
def B.ref_inverse.l0.c {γ : Type} (k0 : Int × Int × Int × Int × Int → Option γ) (k : Int → Option γ) (s1 : Int) (s5 : Int) (s6 : Int) (s7 : Int) (s8 : Int) : Option γ := let t1 := IntKind.u64.wrap (s7.tdiv s8); let t2 := B.ref_timesMod.ok (t1.tmod s1) s6 s1; let t3 := B.ref_timesMod (t1.tmod s1) s6 s1; let t4 := IntKind.u64.wrap (s1 - t3); let t5 := B.ref_addMod s5 t4 s1; let t6 := IntKind.u64.wrap (t1 * s8); let t7 := IntKind.u64.wrap (s7 - t6); B.ref_inverse.l0.c0 k0 k s1 s5 s6 s7 s8 t1 t2 t3 t4 t5 t6 t7
def B.ref_inverse.c {γ : Type} (k0 : Int × Int × Int × Int × Int → Option γ) (k : Int → Option γ) (a : Int) (b : Int) : Option γ := bif !decide (b = 0)
  then k0 (b, 0, 1, b, a.tmod b)
  else none
def B.ref_inverse.L0 (N : Nat)  : Nat → Int × Int × Int × Int × Int → Option (Int)
  | 0, _ => none
  | m + 1, q => B.ref_inverse.l0.c (B.ref_inverse.L0 N m) some (q).1 (q).2.1 (q).2.2.1 (q).2.2.2.1 (q).2.2.2.2
def B.ref_inverse.o (N : Nat) (a : Int) (b : Int) : Option (Int) := B.ref_inverse.c (B.ref_inverse.L0 N  N) some a b
noncomputable def B.ref_inverse.S0 (N : Nat) : LSum := sumN P G (tab L_B.ref_timesMod) (B.ref_inverse.H0 ) 60 B.ref_inverse.B0 N
theorem B.ref_inverse.l0.p0 {γ δ : Type} (f : γ → δ) (k0 : Int × Int × Int × Int × Int → Option γ) (k : Int → Option γ) (s1 : Int) (s5 : Int) (s6 : Int) (s7 : Int) (s8 : Int) (t1 : Int) (t2 : Bool) (t3 : Int) (t4 : Int) (t5 : Int) (t6 : Int) (t7 : Int) : B.ref_inverse.l0.c0 (fun q => (k0 q).map f) (fun q => (k q).map f) s1 s5 s6 s7 s8 t1 t2 t3 t4 t5 t6 t7 = (B.ref_inverse.l0.c0 k0 k s1 s5 s6 s7 s8 t1 t2 t3 t4 t5 t6 t7).map f := by
  unfold B.ref_inverse.l0.c0; (repeat' (first | (apply pm f) | (exact rfl)))
theorem B.ref_inverse.l0.p {γ δ : Type} (f : γ → δ) (k0 : Int × Int × Int × Int × Int → Option γ) (k : Int → Option γ) (s1 : Int) (s5 : Int) (s6 : Int) (s7 : Int) (s8 : Int) : B.ref_inverse.l0.c (fun q => (k0 q).map f) (fun q => (k q).map f) s1 s5 s6 s7 s8 = (B.ref_inverse.l0.c k0 k s1 s5 s6 s7 s8).map f :=
  let t1 := IntKind.u64.wrap (s7.tdiv s8); let t2 := B.ref_timesMod.ok (t1.tmod s1) s6 s1; let t3 := B.ref_timesMod (t1.tmod s1) s6 s1; let t4 := IntKind.u64.wrap (s1 - t3); let t5 := B.ref_addMod s5 t4 s1; let t6 := IntKind.u64.wrap (t1 * s8); let t7 := IntKind.u64.wrap (s7 - t6); B.ref_inverse.l0.p0 f k0 k s1 s5 s6 s7 s8 t1 t2 t3 t4 t5 t6 t7
theorem B.ref_inverse.p {γ δ : Type} (f : γ → δ) (k0 : Int × Int × Int × Int × Int → Option γ) (k : Int → Option γ) (a : Int) (b : Int) : B.ref_inverse.c (fun q => (k0 q).map f) (fun q => (k q).map f) a b = (B.ref_inverse.c k0 k a b).map f := by
  unfold B.ref_inverse.c; (repeat' (first | (apply pm f) | (exact rfl)))
theorem B.ref_inverse.S0.ok (N : Nat) : LoopsOK P G (B.ref_inverse.H0 ).sums B.ref_inverse.B0 := by
  refine LoopsOK_code fun i hi F hF => ?_
  have hlen : (loopsOf B.ref_inverse.B0).length = 0 := by kernel_rfl
  rw [hlen] at hi
  omega
theorem B.ref_inverse.S0.snd (N : Nat) : SoundL P G B.ref_inverse.B0 (B.ref_inverse.S0 N) := sumN_sound C.mixed C.names B.ref_timesMod.t (B.ref_inverse.S0.ok N) N
theorem B.ref_inverse.l0.r (F0 G0 : LSum) (s1 : Int) (s5 : Int) (s6 : Int) (s7 : Int) (s8 : Int) : ex P G (tab L_B.ref_timesMod) (B.ref_inverse.H0 ) 60 B.ref_inverse.B0 (B.ref_inverse.e0 (s1, s5, s6, s7, s8)) (roundK (B.ref_inverse.H0 ) B.ref_inverse.B0 G0 (B.ref_inverse.K0 F0)) = B.ref_inverse.l0.c (fun q => G0.run (B.ref_inverse.e0 q) (B.ref_inverse.K0 F0)) (fun q => some (B.ref_inverse.val q)) s1 s5 s6 s7 s8 := by kernel_rfl
theorem B.ref_inverse.r (F0 : LSum) (a : Int) (b : Int) : runF P G (tab L_B.ref_timesMod) (B.ref_inverse.H F0) 60 Tryz.f152 [.int .u64 a, .int .u64 b] = B.ref_inverse.c (fun q => F0.run (B.ref_inverse.e0 q) (B.ref_inverse.K0 F0)) (fun q => some (B.ref_inverse.val q)) a b := by kernel_rfl
theorem B.ref_inverse.L0.ok (N : Nat) (F0 : LSum)   : ∀ m q, (sumN P G (tab L_B.ref_timesMod) (B.ref_inverse.H0 ) 60 B.ref_inverse.B0 m).run (B.ref_inverse.e0 q) (B.ref_inverse.K0 F0) = (B.ref_inverse.L0 N  m q).map B.ref_inverse.val
  | 0, q => rfl
  | m + 1, q => by
    have ih := B.ref_inverse.L0.ok N F0   m
    refine (sumN_run (n := m) rfl).trans ((B.ref_inverse.l0.r F0 (sumN P G (tab L_B.ref_timesMod) (B.ref_inverse.H0 ) 60 B.ref_inverse.B0 m) (q).1 (q).2.1 (q).2.2.1 (q).2.2.2.1 (q).2.2.2.2).trans ?_)
    refine Eq.trans ?_ (B.ref_inverse.l0.p B.ref_inverse.val (B.ref_inverse.L0 N m) some (q).1 (q).2.1 (q).2.2.1 (q).2.2.2.1 (q).2.2.2.2)
    have e0 : (fun q => (sumN P G (tab L_B.ref_timesMod) (B.ref_inverse.H0 ) 60 B.ref_inverse.B0 m).run (B.ref_inverse.e0 q) (B.ref_inverse.K0 F0)) = (fun q => ((B.ref_inverse.L0 N m) q).map B.ref_inverse.val) := funext ih
    rw [e0]; rfl
theorem B.ref_inverse.q (N : Nat) (a : Int) (b : Int) : runF P G (tab L_B.ref_timesMod) (B.ref_inverse.H (B.ref_inverse.S0 N)) 60 Tryz.f152 [.int .u64 a, .int .u64 b] = (B.ref_inverse.o N a b).map B.ref_inverse.val := by
  have hk0 := B.ref_inverse.L0.ok N (B.ref_inverse.S0 N)   N
  refine (B.ref_inverse.r (B.ref_inverse.S0 N) a b).trans ?_
  refine Eq.trans ?_ (B.ref_inverse.p B.ref_inverse.val (B.ref_inverse.L0 N  N) some a b)
  have e0 : (fun q => (B.ref_inverse.S0 N).run (B.ref_inverse.e0 q) (B.ref_inverse.K0 (B.ref_inverse.S0 N))) = (fun q => ((B.ref_inverse.L0 N  N) q).map B.ref_inverse.val) := funext hk0
  rw [e0]; rfl
theorem B.ref_inverse.lok (N : Nat) : LoopsOK P G (B.ref_inverse.H (B.ref_inverse.S0 N)).sums (fbody Tryz.f152) := by
  refine LoopsOK_code fun i hi F hF => ?_
  have hlen : (loopsOf (fbody Tryz.f152)).length = 1 := by kernel_rfl
  rw [hlen] at hi
  match i, hi with
  | 0, _ => exact soundAt (B' := B.ref_inverse.B0) (by kernel_rfl) (by kernel_rfl) (B.ref_inverse.S0.snd N) hF
  | _ + 1, h => omega
def B.ref_inverse (a : Int) (b : Int) : Int := hide ((B.ref_inverse.o (b.toNat + 2) a b).getD (0))
def B.ref_inverse.g (a : Int) (b : Int) : Bool := hide (B.ref_inverse.o (b.toNat + 2) a b).isSome
theorem B.ref_inverse.s (a : Int) (b : Int) (h : B.ref_inverse.g a b = true) : B.ref_inverse.o (b.toNat + 2) a b = some (B.ref_inverse a b) := by
  unfold B.ref_inverse.g at h; unfold B.ref_inverse; simp only [hide_eq] at h ⊢; revert h; cases B.ref_inverse.o (b.toNat + 2) a b <;> simp
def B.ref_inverse.F : FV := mkF (cP (cI .u64) (cP (cI .u64) cU)) (fun | (a, (b, ())) => B.ref_inverse.g a b) (fun | (a, (b, ())) => B.ref_inverse.val (B.ref_inverse a b))
def L_B.ref_inverse : TL := (152, B.ref_inverse.F) :: L_B.ref_timesMod
theorem B.ref_inverse.t : TabOK P G (tab L_B.ref_inverse) :=
  TabOK_mkH C B.ref_timesMod.t Tryz.func152 (by kernel_rfl) (fun | (_, (b, ())) => B.ref_inverse.H (B.ref_inverse.S0 (b.toNat + 2))) (by rintro ⟨a, ⟨b, ⟨⟩⟩⟩; exact B.ref_inverse.lok _) 60 (by
    rintro ⟨a, ⟨b, ⟨⟩⟩⟩ h
    exact (B.ref_inverse.q (b.toNat + 2) a b).trans (congrArg (Option.map B.ref_inverse.val) (B.ref_inverse.s a b h)))
def B.ref_Meet.c0 {γ : Type} (n : γ) (k : Int × Int × Bool → γ) (a0 : Int) (a1 : Int) (b0 : Int) (b1 : Int) (t1 : Int × Int) (t2 : Int × Int) (t3 : Bool) (t4 : Bool) (t5 : Bool) (t6 : Bool) (t7 : Int × Int) (t8 : Int × Int) (t9 : Bool) (t10 : Int × Int) (t11 : Int) (t12 : Bool) (t13 : Int) (t14 : Bool) (t15 : Int) (t16 : Int) (t17 : Int) (t18 : Int) (t19 : Int) (t20 : Int) (t21 : Int) (t22 : Bool) (t23 : Bool) (t24 : Int) (t25 : Int) (t26 : Bool) (t27 : Int × Int) (t28 : Int) (t29 : Bool) (t30 : Int × Int) (t31 : Int) (t32 : Int × Int) (t33 : Bool) (t34 : Int) (t35 : Int × Int) (t36 : Int × Int) (t37 : Bool) (t38 : Int) (t39 : Int) (t40 : Int × Int) (t41 : Bool) (t42 : Int × Int) (t43 : Bool) (t44 : Int) (t45 : Int) (t46 : Int × Int) : γ := bif t1.fst == 0
  then bif t3
   then bif t4
    then k (t1.fst, t1.snd, true)
    else bif t5
     then bif t6
      then k (t2.fst, t2.snd, true)
      else k (0, 0, false)
     else n
   else n
  else bif t2.fst == 0
   then bif t3
    then bif t4
     then k (t1.fst, t1.snd, true)
     else bif t5
      then bif t6
       then k (t2.fst, t2.snd, true)
       else k (0, 0, false)
      else n
    else n
   else bif t9
    then bif !decide (t10.snd = 0)
     then bif !decide (t10.snd = 0)
      then bif t1.snd.tmod t10.snd != t2.snd.tmod t10.snd
       then k (0, 0, false)
       else bif !decide (t10.snd = 0)
        then bif !decide (t10.snd = 0) && (!decide (t11 = 0) && true) && ((!decide (t10.snd = 0) && (!decide (t11 = 0) && (!decide (t11 = 0) && true)) && true || t12) && (!decide (t10.snd = 0) && (t14 && (t22 && true)))) && true || t23
         then bif t26
          then bif decide (t28 < t1.snd)
           then bif t29
            then bif t30.fst == 0
             then k (t30.snd, t28, true)
             else bif t33
              then k (t35.fst, t35.snd, true)
              else bif !t37
               then k (t40.fst, t40.snd, true)
               else k (0, 0, false)
            else n
           else bif t29
            then bif t30.fst == 0
             then k (t30.snd, t28, true)
             else bif t41
              then k (t35.fst, t35.snd, true)
              else bif !t43
               then k (t46.fst, t46.snd, true)
               else k (0, 0, false)
            else n
          else n
         else n
        else n
      else n
     else n
    else n
def B.ref_Meet.c {γ : Type} (n : γ) (k : Int × Int × Bool → γ) (a0 : Int) (a1 : Int) (b0 : Int) (b1 : Int) : γ := let t1 := B.ref_Norm a0 a1; let t2 := B.ref_Norm b0 b1; let t3 := B.ref_Leq.ok t1.fst t1.snd t2.fst t2.snd; let t4 := B.ref_Leq t1.fst t1.snd t2.fst t2.snd; let t5 := B.ref_Leq.ok t2.fst t2.snd t1.fst t1.snd; let t6 := B.ref_Leq t2.fst t2.snd t1.fst t1.snd; let t7 := B.ref_of t1.fst; let t8 := B.ref_of t2.fst; let t9 := B.ref_gcd.g t7.fst t7.snd t8.fst t8.snd; let t10 := B.ref_gcd t7.fst t7.snd t8.fst t8.snd; let t11 := IntKind.u64.wrap (t2.fst.tdiv t10.snd); let t12 := bif decide (t2.snd < t1.snd) then !decide (t10.snd = 0) && (!decide (t11 = 0) && (!decide (t11 = 0) && true)) else true; let t13 := IntKind.u64.wrap (t1.fst.tdiv t10.snd); let t14 := B.ref_inverse.g t13 t11; let t15 := IntKind.u64.wrap (t1.snd - t2.snd); let t16 := IntKind.u64.wrap (t15.tdiv t10.snd); let t17 := IntKind.u64.wrap (t11 - t16.tmod t11); let t18 := IntKind.u64.wrap (t2.snd - t1.snd); let t19 := IntKind.u64.wrap (t18.tdiv t10.snd); let t20 := bif decide (t2.snd < t1.snd) then t17.tmod t11 else t19.tmod t11; let t21 := B.ref_inverse t13 t11; let t22 := B.ref_timesMod.ok t20 t21 t11; let t23 := bif decide (t11 > 1) then !decide (t10.snd = 0) && (!decide (t11 = 0) && true) && ((!decide (t10.snd = 0) && (!decide (t11 = 0) && (!decide (t11 = 0) && true)) && true || t12) && (!decide (t10.snd = 0) && (t14 && (t22 && true)))) else true; let t24 := B.ref_timesMod t20 t21 t11; let t25 := bif decide (t11 > 1) then t24 else 0; let t26 := B.ref_times.g t1.fst t25; let t27 := B.ref_times t1.fst t25; let t28 := IntKind.u64.wrap (t27.snd + t1.snd); let t29 := B.ref_times.g t1.fst t11; let t30 := B.ref_times t1.fst t11; let t31 := IntKind.u64.wrap (t27.fst + 1); let t32 := B.ref_of 9223372036854775808; let t33 := B.ref_less t31 t28 t32.fst t32.snd; let t34 := IntKind.i64.wrap t28; let t35 := B.ref_Const t34; let t36 := B.ref_minus t30.fst t30.snd t31 t28; let t37 := B.ref_less t32.fst t32.snd t36.fst t36.snd; let t38 := IntKind.u64.wrap (0 - t36.snd); let t39 := IntKind.i64.wrap t38; let t40 := B.ref_Const t39; let t41 := B.ref_less t27.fst t28 t32.fst t32.snd; let t42 := B.ref_minus t30.fst t30.snd t27.fst t28; let t43 := B.ref_less t32.fst t32.snd t42.fst t42.snd; let t44 := IntKind.u64.wrap (0 - t42.snd); let t45 := IntKind.i64.wrap t44; let t46 := B.ref_Const t45; B.ref_Meet.c0 n k a0 a1 b0 b1 t1 t2 t3 t4 t5 t6 t7 t8 t9 t10 t11 t12 t13 t14 t15 t16 t17 t18 t19 t20 t21 t22 t23 t24 t25 t26 t27 t28 t29 t30 t31 t32 t33 t34 t35 t36 t37 t38 t39 t40 t41 t42 t43 t44 t45 t46
def B.ref_Meet.ok (a0 : Int) (a1 : Int) (b0 : Int) (b1 : Int) : Bool := B.ref_Meet.c false (fun _ => true) a0 a1 b0 b1
def B.ref_Meet (a0 : Int) (a1 : Int) (b0 : Int) (b1 : Int) : Int × Int × Bool := B.ref_Meet.c (0, 0, false) id a0 a1 b0 b1
def B.ref_Meet.F : FV := mkF (cP (cA (cP (cI .u64) (cP (cI .u64) cU))) (cP (cA (cP (cI .u64) (cP (cI .u64) cU))) cU)) (fun | ((a0, (a1, ())), ((b0, (b1, ())), ())) => B.ref_Meet.ok a0 a1 b0 b1) (fun | ((a0, (a1, ())), ((b0, (b1, ())), ())) => .tuple #[.agg #[.int .u64 (B.ref_Meet a0 a1 b0 b1).1, .int .u64 (B.ref_Meet a0 a1 b0 b1).2.1], .bool (B.ref_Meet a0 a1 b0 b1).2.2])
def L_B.ref_Meet : TL := (79, B.ref_Meet.F) :: L_B.ref_inverse
theorem B.ref_Meet.p0 {γ : Type} (k : Int × Int × Bool → γ) (a0 : Int) (a1 : Int) (b0 : Int) (b1 : Int) (t1 : Int × Int) (t2 : Int × Int) (t3 : Bool) (t4 : Bool) (t5 : Bool) (t6 : Bool) (t7 : Int × Int) (t8 : Int × Int) (t9 : Bool) (t10 : Int × Int) (t11 : Int) (t12 : Bool) (t13 : Int) (t14 : Bool) (t15 : Int) (t16 : Int) (t17 : Int) (t18 : Int) (t19 : Int) (t20 : Int) (t21 : Int) (t22 : Bool) (t23 : Bool) (t24 : Int) (t25 : Int) (t26 : Bool) (t27 : Int × Int) (t28 : Int) (t29 : Bool) (t30 : Int × Int) (t31 : Int) (t32 : Int × Int) (t33 : Bool) (t34 : Int) (t35 : Int × Int) (t36 : Int × Int) (t37 : Bool) (t38 : Int) (t39 : Int) (t40 : Int × Int) (t41 : Bool) (t42 : Int × Int) (t43 : Bool) (t44 : Int) (t45 : Int) (t46 : Int × Int) : B.ref_Meet.c0 false (fun _ => true) a0 a1 b0 b1 t1 t2 t3 t4 t5 t6 t7 t8 t9 t10 t11 t12 t13 t14 t15 t16 t17 t18 t19 t20 t21 t22 t23 t24 t25 t26 t27 t28 t29 t30 t31 t32 t33 t34 t35 t36 t37 t38 t39 t40 t41 t42 t43 t44 t45 t46 = true → B.ref_Meet.c0 none (fun q => some (k q)) a0 a1 b0 b1 t1 t2 t3 t4 t5 t6 t7 t8 t9 t10 t11 t12 t13 t14 t15 t16 t17 t18 t19 t20 t21 t22 t23 t24 t25 t26 t27 t28 t29 t30 t31 t32 t33 t34 t35 t36 t37 t38 t39 t40 t41 t42 t43 t44 t45 t46 = some (k (B.ref_Meet.c0 (0, 0, false) id a0 a1 b0 b1 t1 t2 t3 t4 t5 t6 t7 t8 t9 t10 t11 t12 t13 t14 t15 t16 t17 t18 t19 t20 t21 t22 t23 t24 t25 t26 t27 t28 t29 t30 t31 t32 t33 t34 t35 t36 t37 t38 t39 t40 t41 t42 t43 t44 t45 t46)) := by
  unfold B.ref_Meet.c0; (repeat' (first | (apply pn k) | (exact pn_none _ _) | (exact pn_leaf k _)))
theorem B.ref_Meet.p {γ : Type} (k : Int × Int × Bool → γ) (a0 : Int) (a1 : Int) (b0 : Int) (b1 : Int) (h : B.ref_Meet.ok a0 a1 b0 b1 = true) : B.ref_Meet.c none (fun q => some (k q)) a0 a1 b0 b1 = some (k (B.ref_Meet a0 a1 b0 b1)) :=
  let t1 := B.ref_Norm a0 a1; let t2 := B.ref_Norm b0 b1; let t3 := B.ref_Leq.ok t1.fst t1.snd t2.fst t2.snd; let t4 := B.ref_Leq t1.fst t1.snd t2.fst t2.snd; let t5 := B.ref_Leq.ok t2.fst t2.snd t1.fst t1.snd; let t6 := B.ref_Leq t2.fst t2.snd t1.fst t1.snd; let t7 := B.ref_of t1.fst; let t8 := B.ref_of t2.fst; let t9 := B.ref_gcd.g t7.fst t7.snd t8.fst t8.snd; let t10 := B.ref_gcd t7.fst t7.snd t8.fst t8.snd; let t11 := IntKind.u64.wrap (t2.fst.tdiv t10.snd); let t12 := bif decide (t2.snd < t1.snd) then !decide (t10.snd = 0) && (!decide (t11 = 0) && (!decide (t11 = 0) && true)) else true; let t13 := IntKind.u64.wrap (t1.fst.tdiv t10.snd); let t14 := B.ref_inverse.g t13 t11; let t15 := IntKind.u64.wrap (t1.snd - t2.snd); let t16 := IntKind.u64.wrap (t15.tdiv t10.snd); let t17 := IntKind.u64.wrap (t11 - t16.tmod t11); let t18 := IntKind.u64.wrap (t2.snd - t1.snd); let t19 := IntKind.u64.wrap (t18.tdiv t10.snd); let t20 := bif decide (t2.snd < t1.snd) then t17.tmod t11 else t19.tmod t11; let t21 := B.ref_inverse t13 t11; let t22 := B.ref_timesMod.ok t20 t21 t11; let t23 := bif decide (t11 > 1) then !decide (t10.snd = 0) && (!decide (t11 = 0) && true) && ((!decide (t10.snd = 0) && (!decide (t11 = 0) && (!decide (t11 = 0) && true)) && true || t12) && (!decide (t10.snd = 0) && (t14 && (t22 && true)))) else true; let t24 := B.ref_timesMod t20 t21 t11; let t25 := bif decide (t11 > 1) then t24 else 0; let t26 := B.ref_times.g t1.fst t25; let t27 := B.ref_times t1.fst t25; let t28 := IntKind.u64.wrap (t27.snd + t1.snd); let t29 := B.ref_times.g t1.fst t11; let t30 := B.ref_times t1.fst t11; let t31 := IntKind.u64.wrap (t27.fst + 1); let t32 := B.ref_of 9223372036854775808; let t33 := B.ref_less t31 t28 t32.fst t32.snd; let t34 := IntKind.i64.wrap t28; let t35 := B.ref_Const t34; let t36 := B.ref_minus t30.fst t30.snd t31 t28; let t37 := B.ref_less t32.fst t32.snd t36.fst t36.snd; let t38 := IntKind.u64.wrap (0 - t36.snd); let t39 := IntKind.i64.wrap t38; let t40 := B.ref_Const t39; let t41 := B.ref_less t27.fst t28 t32.fst t32.snd; let t42 := B.ref_minus t30.fst t30.snd t27.fst t28; let t43 := B.ref_less t32.fst t32.snd t42.fst t42.snd; let t44 := IntKind.u64.wrap (0 - t42.snd); let t45 := IntKind.i64.wrap t44; let t46 := B.ref_Const t45; B.ref_Meet.p0 k a0 a1 b0 b1 t1 t2 t3 t4 t5 t6 t7 t8 t9 t10 t11 t12 t13 t14 t15 t16 t17 t18 t19 t20 t21 t22 t23 t24 t25 t26 t27 t28 t29 t30 t31 t32 t33 t34 t35 t36 t37 t38 t39 t40 t41 t42 t43 t44 t45 t46 h
theorem B.ref_Meet.r (a0 : Int) (a1 : Int) (b0 : Int) (b1 : Int) : runF P G (tab L_B.ref_inverse) { merge := true } 60 Tryz.f79 [.agg #[.int .u64 a0, .int .u64 a1], .agg #[.int .u64 b0, .int .u64 b1]] = B.ref_Meet.c none (fun q => some (.tuple #[.agg #[.int .u64 (q).1, .int .u64 (q).2.1], .bool (q).2.2] : Value)) a0 a1 b0 b1 := by kernel_rfl
theorem B.ref_Meet.t : TabOK P G (tab L_B.ref_Meet) :=
  TabOK_mk C B.ref_inverse.t Tryz.func79 (by kernel_rfl) true 60 (by
    rintro ⟨⟨a0, ⟨a1, ⟨⟩⟩⟩, ⟨⟨b0, ⟨b1, ⟨⟩⟩⟩, ⟨⟩⟩⟩ h
    exact (B.ref_Meet.r a0 a1 b0 b1).trans (B.ref_Meet.p (fun q => (.tuple #[.agg #[.int .u64 (q).1, .int .u64 (q).2.1], .bool (q).2.2] : Value)) a0 a1 b0 b1 h))
def B.ref_Up.c0 {γ : Type} (n : γ) (k : Int × Bool → γ) (a0 : Int) (a1 : Int) (b : Int) (t1 : Int) (t2 : Bool) (t3 : Int × Int × Bool) (t4 : Int × Int) (t5 : Bool) (t6 : Int × Int) (t7 : Int × Int × Bool) (t8 : Bool) (t9 : Int × Int) (t10 : Int × Int) (t11 : Int) (t12 : Int) (t13 : Int) (t14 : Int) (t15 : Int) (t16 : Int) : γ := bif a0 == 0
  then bif decide (t1 < b)
   then k (0, false)
   else k (t1, true)
  else bif t2
   then bif t5
    then bif t8
     then bif !decide (a0 = 0)
      then bif decide (t12 > t14)
       then k (0, false)
       else k (t16, true)
      else n
     else n
    else n
   else n
def B.ref_Up.c {γ : Type} (n : γ) (k : Int × Bool → γ) (a0 : Int) (a1 : Int) (b : Int) : γ := let t1 := B.ref_number a0 a1; let t2 := B.ref_r.ok a0 a1; let t3 := B.ref_r a0 a1; let t4 := B.ref_of a0; let t5 := B.ref_rest.ok t3.fst t3.snd.fst t3.snd.snd t4.fst t4.snd; let t6 := B.ref_Const b; let t7 := B.ref_r t6.fst t6.snd; let t8 := B.ref_rest.ok t7.fst t7.snd.fst t7.snd.snd t4.fst t4.snd; let t9 := B.ref_rest t3.fst t3.snd.fst t3.snd.snd t4.fst t4.snd; let t10 := B.ref_rest t7.fst t7.snd.fst t7.snd.snd t4.fst t4.snd; let t11 := IntKind.u64.wrap (a0 - t10.snd); let t12 := B.ref_addMod t9.snd (t11.tmod a0) a0; let t13 := IntKind.u64.wrap b; let t14 := IntKind.u64.wrap (9223372036854775807 - t13); let t15 := IntKind.u64.wrap (t13 + t12); let t16 := IntKind.i64.wrap t15; B.ref_Up.c0 n k a0 a1 b t1 t2 t3 t4 t5 t6 t7 t8 t9 t10 t11 t12 t13 t14 t15 t16
def B.ref_Up.ok (a0 : Int) (a1 : Int) (b : Int) : Bool := B.ref_Up.c false (fun _ => true) a0 a1 b
def B.ref_Up (a0 : Int) (a1 : Int) (b : Int) : Int × Bool := B.ref_Up.c (0, false) id a0 a1 b
def B.ref_Up.F : FV := mkF (cP (cA (cP (cI .u64) (cP (cI .u64) cU))) (cP (cI .i64) cU)) (fun | ((a0, (a1, ())), (b, ())) => B.ref_Up.ok a0 a1 b) (fun | ((a0, (a1, ())), (b, ())) => .tuple #[.int .i64 (B.ref_Up a0 a1 b).1, .bool (B.ref_Up a0 a1 b).2])
def L_B.ref_Up : TL := (60, B.ref_Up.F) :: L_B.ref_Meet
theorem B.ref_Up.p0 {γ : Type} (k : Int × Bool → γ) (a0 : Int) (a1 : Int) (b : Int) (t1 : Int) (t2 : Bool) (t3 : Int × Int × Bool) (t4 : Int × Int) (t5 : Bool) (t6 : Int × Int) (t7 : Int × Int × Bool) (t8 : Bool) (t9 : Int × Int) (t10 : Int × Int) (t11 : Int) (t12 : Int) (t13 : Int) (t14 : Int) (t15 : Int) (t16 : Int) : B.ref_Up.c0 false (fun _ => true) a0 a1 b t1 t2 t3 t4 t5 t6 t7 t8 t9 t10 t11 t12 t13 t14 t15 t16 = true → B.ref_Up.c0 none (fun q => some (k q)) a0 a1 b t1 t2 t3 t4 t5 t6 t7 t8 t9 t10 t11 t12 t13 t14 t15 t16 = some (k (B.ref_Up.c0 (0, false) id a0 a1 b t1 t2 t3 t4 t5 t6 t7 t8 t9 t10 t11 t12 t13 t14 t15 t16)) := by
  unfold B.ref_Up.c0; (repeat' (first | (apply pn k) | (exact pn_none _ _) | (exact pn_leaf k _)))
theorem B.ref_Up.p {γ : Type} (k : Int × Bool → γ) (a0 : Int) (a1 : Int) (b : Int) (h : B.ref_Up.ok a0 a1 b = true) : B.ref_Up.c none (fun q => some (k q)) a0 a1 b = some (k (B.ref_Up a0 a1 b)) :=
  let t1 := B.ref_number a0 a1; let t2 := B.ref_r.ok a0 a1; let t3 := B.ref_r a0 a1; let t4 := B.ref_of a0; let t5 := B.ref_rest.ok t3.fst t3.snd.fst t3.snd.snd t4.fst t4.snd; let t6 := B.ref_Const b; let t7 := B.ref_r t6.fst t6.snd; let t8 := B.ref_rest.ok t7.fst t7.snd.fst t7.snd.snd t4.fst t4.snd; let t9 := B.ref_rest t3.fst t3.snd.fst t3.snd.snd t4.fst t4.snd; let t10 := B.ref_rest t7.fst t7.snd.fst t7.snd.snd t4.fst t4.snd; let t11 := IntKind.u64.wrap (a0 - t10.snd); let t12 := B.ref_addMod t9.snd (t11.tmod a0) a0; let t13 := IntKind.u64.wrap b; let t14 := IntKind.u64.wrap (9223372036854775807 - t13); let t15 := IntKind.u64.wrap (t13 + t12); let t16 := IntKind.i64.wrap t15; B.ref_Up.p0 k a0 a1 b t1 t2 t3 t4 t5 t6 t7 t8 t9 t10 t11 t12 t13 t14 t15 t16 h
theorem B.ref_Up.r (a0 : Int) (a1 : Int) (b : Int) : runF P G (tab L_B.ref_Meet) { merge := true } 60 Tryz.f60 [.agg #[.int .u64 a0, .int .u64 a1], .int .i64 b] = B.ref_Up.c none (fun q => some (.tuple #[.int .i64 (q).1, .bool (q).2] : Value)) a0 a1 b := by kernel_rfl
theorem B.ref_Up.t : TabOK P G (tab L_B.ref_Up) :=
  TabOK_mk C B.ref_Meet.t Tryz.func60 (by kernel_rfl) true 60 (by
    rintro ⟨⟨a0, ⟨a1, ⟨⟩⟩⟩, ⟨b, ⟨⟩⟩⟩ h
    exact (B.ref_Up.r a0 a1 b).trans (B.ref_Up.p (fun q => (.tuple #[.int .i64 (q).1, .bool (q).2] : Value)) a0 a1 b h))
def B.ref_Down.c0 {γ : Type} (n : γ) (k : Int × Bool → γ) (a0 : Int) (a1 : Int) (b : Int) (t1 : Int) (t2 : Bool) (t3 : Int × Int × Bool) (t4 : Int × Int) (t5 : Bool) (t6 : Int × Int) (t7 : Int × Int × Bool) (t8 : Bool) (t9 : Int × Int) (t10 : Int × Int) (t11 : Int) (t12 : Int) (t13 : Int) (t14 : Int) (t15 : Int) (t16 : Int) : γ := bif a0 == 0
  then bif decide (t1 > b)
   then k (0, false)
   else k (t1, true)
  else bif t2
   then bif t5
    then bif t8
     then bif !decide (a0 = 0)
      then bif decide (t12 > t14)
       then k (0, false)
       else k (t16, true)
      else n
     else n
    else n
   else n
def B.ref_Down.c {γ : Type} (n : γ) (k : Int × Bool → γ) (a0 : Int) (a1 : Int) (b : Int) : γ := let t1 := B.ref_number a0 a1; let t2 := B.ref_r.ok a0 a1; let t3 := B.ref_r a0 a1; let t4 := B.ref_of a0; let t5 := B.ref_rest.ok t3.fst t3.snd.fst t3.snd.snd t4.fst t4.snd; let t6 := B.ref_Const b; let t7 := B.ref_r t6.fst t6.snd; let t8 := B.ref_rest.ok t7.fst t7.snd.fst t7.snd.snd t4.fst t4.snd; let t9 := B.ref_rest t7.fst t7.snd.fst t7.snd.snd t4.fst t4.snd; let t10 := B.ref_rest t3.fst t3.snd.fst t3.snd.snd t4.fst t4.snd; let t11 := IntKind.u64.wrap (a0 - t10.snd); let t12 := B.ref_addMod t9.snd (t11.tmod a0) a0; let t13 := IntKind.u64.wrap b; let t14 := IntKind.u64.wrap (t13 - 9223372036854775808); let t15 := IntKind.u64.wrap (t13 - t12); let t16 := IntKind.i64.wrap t15; B.ref_Down.c0 n k a0 a1 b t1 t2 t3 t4 t5 t6 t7 t8 t9 t10 t11 t12 t13 t14 t15 t16
def B.ref_Down.ok (a0 : Int) (a1 : Int) (b : Int) : Bool := B.ref_Down.c false (fun _ => true) a0 a1 b
def B.ref_Down (a0 : Int) (a1 : Int) (b : Int) : Int × Bool := B.ref_Down.c (0, false) id a0 a1 b
def B.ref_Down.F : FV := mkF (cP (cA (cP (cI .u64) (cP (cI .u64) cU))) (cP (cI .i64) cU)) (fun | ((a0, (a1, ())), (b, ())) => B.ref_Down.ok a0 a1 b) (fun | ((a0, (a1, ())), (b, ())) => .tuple #[.int .i64 (B.ref_Down a0 a1 b).1, .bool (B.ref_Down a0 a1 b).2])
def L_B.ref_Down : TL := (61, B.ref_Down.F) :: L_B.ref_Up
theorem B.ref_Down.p0 {γ : Type} (k : Int × Bool → γ) (a0 : Int) (a1 : Int) (b : Int) (t1 : Int) (t2 : Bool) (t3 : Int × Int × Bool) (t4 : Int × Int) (t5 : Bool) (t6 : Int × Int) (t7 : Int × Int × Bool) (t8 : Bool) (t9 : Int × Int) (t10 : Int × Int) (t11 : Int) (t12 : Int) (t13 : Int) (t14 : Int) (t15 : Int) (t16 : Int) : B.ref_Down.c0 false (fun _ => true) a0 a1 b t1 t2 t3 t4 t5 t6 t7 t8 t9 t10 t11 t12 t13 t14 t15 t16 = true → B.ref_Down.c0 none (fun q => some (k q)) a0 a1 b t1 t2 t3 t4 t5 t6 t7 t8 t9 t10 t11 t12 t13 t14 t15 t16 = some (k (B.ref_Down.c0 (0, false) id a0 a1 b t1 t2 t3 t4 t5 t6 t7 t8 t9 t10 t11 t12 t13 t14 t15 t16)) := by
  unfold B.ref_Down.c0; (repeat' (first | (apply pn k) | (exact pn_none _ _) | (exact pn_leaf k _)))
theorem B.ref_Down.p {γ : Type} (k : Int × Bool → γ) (a0 : Int) (a1 : Int) (b : Int) (h : B.ref_Down.ok a0 a1 b = true) : B.ref_Down.c none (fun q => some (k q)) a0 a1 b = some (k (B.ref_Down a0 a1 b)) :=
  let t1 := B.ref_number a0 a1; let t2 := B.ref_r.ok a0 a1; let t3 := B.ref_r a0 a1; let t4 := B.ref_of a0; let t5 := B.ref_rest.ok t3.fst t3.snd.fst t3.snd.snd t4.fst t4.snd; let t6 := B.ref_Const b; let t7 := B.ref_r t6.fst t6.snd; let t8 := B.ref_rest.ok t7.fst t7.snd.fst t7.snd.snd t4.fst t4.snd; let t9 := B.ref_rest t7.fst t7.snd.fst t7.snd.snd t4.fst t4.snd; let t10 := B.ref_rest t3.fst t3.snd.fst t3.snd.snd t4.fst t4.snd; let t11 := IntKind.u64.wrap (a0 - t10.snd); let t12 := B.ref_addMod t9.snd (t11.tmod a0) a0; let t13 := IntKind.u64.wrap b; let t14 := IntKind.u64.wrap (t13 - 9223372036854775808); let t15 := IntKind.u64.wrap (t13 - t12); let t16 := IntKind.i64.wrap t15; B.ref_Down.p0 k a0 a1 b t1 t2 t3 t4 t5 t6 t7 t8 t9 t10 t11 t12 t13 t14 t15 t16 h
theorem B.ref_Down.r (a0 : Int) (a1 : Int) (b : Int) : runF P G (tab L_B.ref_Up) { merge := true } 60 Tryz.f61 [.agg #[.int .u64 a0, .int .u64 a1], .int .i64 b] = B.ref_Down.c none (fun q => some (.tuple #[.int .i64 (q).1, .bool (q).2] : Value)) a0 a1 b := by kernel_rfl
theorem B.ref_Down.t : TabOK P G (tab L_B.ref_Down) :=
  TabOK_mk C B.ref_Up.t Tryz.func61 (by kernel_rfl) true 60 (by
    rintro ⟨⟨a0, ⟨a1, ⟨⟩⟩⟩, ⟨b, ⟨⟩⟩⟩ h
    exact (B.ref_Down.r a0 a1 b).trans (B.ref_Down.p (fun q => (.tuple #[.int .i64 (q).1, .bool (q).2] : Value)) a0 a1 b h))
def B.cong_amount.c0 {γ : Type} (k : Int → γ) (a0 : Int) (a1 : Int) (t1 : Bool) (t2 : Int) (t3 : Int) : γ := bif t1
  then bif decide (t2 < 0)
   then k (t3)
   else k (a1)
  else k (a1)
def B.cong_amount.c {γ : Type} (k : Int → γ) (a0 : Int) (a1 : Int) : γ := let t1 := B.cong_alone a0 a1; let t2 := IntKind.i64.wrap a1; let t3 := IntKind.u64.wrap (0 - a1); B.cong_amount.c0 k a0 a1 t1 t2 t3
def B.cong_amount (a0 : Int) (a1 : Int) : Int := B.cong_amount.c id a0 a1
def B.cong_amount.F : FV := mkF (cP (cA (cP (cI .u64) (cP (cI .u64) cU))) cU) (fun _ => true) (fun | ((a0, (a1, ())), ()) => .int .u64 (B.cong_amount a0 a1))
def L_B.cong_amount : TL := (216, B.cong_amount.F) :: L_B.ref_Down
theorem B.cong_amount.p0 {γ : Type} (k : Int → γ) (a0 : Int) (a1 : Int) (t1 : Bool) (t2 : Int) (t3 : Int) : B.cong_amount.c0 k a0 a1 t1 t2 t3 = k (B.cong_amount.c0 id a0 a1 t1 t2 t3) := by
  unfold B.cong_amount.c0; (repeat' (first | (apply pc k) | (exact rfl)))
theorem B.cong_amount.p {γ : Type} (k : Int → γ) (a0 : Int) (a1 : Int) : B.cong_amount.c k a0 a1 = k (B.cong_amount a0 a1) :=
  let t1 := B.cong_alone a0 a1; let t2 := IntKind.i64.wrap a1; let t3 := IntKind.u64.wrap (0 - a1); B.cong_amount.p0 k a0 a1 t1 t2 t3
theorem B.cong_amount.r (a0 : Int) (a1 : Int) : runF P G (tab L_B.ref_Down) { merge := true } 60 Tryz.f216 [.agg #[.int .u64 a0, .int .u64 a1]] = B.cong_amount.c (fun q => some (.int .u64 (q) : Value)) a0 a1 := by kernel_rfl
theorem B.cong_amount.t : TabOK P G (tab L_B.cong_amount) :=
  TabOK_mk C B.ref_Down.t Tryz.func216 (by kernel_rfl) true 60 (by
    rintro ⟨⟨a0, ⟨a1, ⟨⟩⟩⟩, ⟨⟩⟩ h
    exact (B.cong_amount.r a0 a1).trans (B.cong_amount.p (fun q => some (.int .u64 (q) : Value)) a0 a1))
def B.cong_product.c0 {γ : Type} (k : Int × Int → γ) (a : Int) (b : Int) (t1 : Int × Int) : γ := k (t1.fst, t1.snd)
def B.cong_product.c {γ : Type} (k : Int × Int → γ) (a : Int) (b : Int) : γ := let t1 := bits_Mul64 a b; B.cong_product.c0 k a b t1
def B.cong_product (a : Int) (b : Int) : Int × Int := B.cong_product.c id a b
def B.cong_product.F : FV := mkF (cP (cI .u64) (cP (cI .u64) cU)) (fun _ => true) (fun | (a, (b, ())) => .agg #[.int .u64 (B.cong_product a b).1, .int .u64 (B.cong_product a b).2])
def L_B.cong_product : TL := (215, B.cong_product.F) :: L_B.cong_amount
theorem B.cong_product.p0 {γ : Type} (k : Int × Int → γ) (a : Int) (b : Int) (t1 : Int × Int) : B.cong_product.c0 k a b t1 = k (B.cong_product.c0 id a b t1) := by
  unfold B.cong_product.c0; (repeat' (first | (apply pc k) | (exact rfl)))
theorem B.cong_product.p {γ : Type} (k : Int × Int → γ) (a : Int) (b : Int) : B.cong_product.c k a b = k (B.cong_product a b) :=
  let t1 := bits_Mul64 a b; B.cong_product.p0 k a b t1
theorem B.cong_product.r (a : Int) (b : Int) : runF P G (tab L_B.cong_amount) { merge := true } 60 Tryz.f215 [.int .u64 a, .int .u64 b] = B.cong_product.c (fun q => some (.agg #[.int .u64 (q).1, .int .u64 (q).2] : Value)) a b := by kernel_rfl
theorem B.cong_product.t : TabOK P G (tab L_B.cong_product) :=
  TabOK_mk C B.cong_amount.t Tryz.func215 (by kernel_rfl) true 60 (by
    rintro ⟨a, ⟨b, ⟨⟩⟩⟩ h
    exact (B.cong_product.r a b).trans (B.cong_product.p (fun q => some (.agg #[.int .u64 (q).1, .int .u64 (q).2] : Value)) a b))
def B.wide_noughts.c0 {γ : Type} (k : Int → γ) (a0 : Int) (a1 : Int) (t1 : Int) (t2 : Int) (t3 : Int) : γ := bif a1 != 0
  then k (t1)
  else k (t3)
def B.wide_noughts.c {γ : Type} (k : Int → γ) (a0 : Int) (a1 : Int) : γ := let t1 := bits_TrailingZeros64 a1; let t2 := bits_TrailingZeros64 a0; let t3 := IntKind.i64.wrap (64 + t2); B.wide_noughts.c0 k a0 a1 t1 t2 t3
def B.wide_noughts (a0 : Int) (a1 : Int) : Int := B.wide_noughts.c id a0 a1
def B.wide_noughts.F : FV := mkF (cP (cA (cP (cI .u64) (cP (cI .u64) cU))) cU) (fun _ => true) (fun | ((a0, (a1, ())), ()) => .int .i64 (B.wide_noughts a0 a1))
def L_B.wide_noughts : TL := (217, B.wide_noughts.F) :: L_B.cong_product
theorem B.wide_noughts.p0 {γ : Type} (k : Int → γ) (a0 : Int) (a1 : Int) (t1 : Int) (t2 : Int) (t3 : Int) : B.wide_noughts.c0 k a0 a1 t1 t2 t3 = k (B.wide_noughts.c0 id a0 a1 t1 t2 t3) := by
  unfold B.wide_noughts.c0; (repeat' (first | (apply pc k) | (exact rfl)))
theorem B.wide_noughts.p {γ : Type} (k : Int → γ) (a0 : Int) (a1 : Int) : B.wide_noughts.c k a0 a1 = k (B.wide_noughts a0 a1) :=
  let t1 := bits_TrailingZeros64 a1; let t2 := bits_TrailingZeros64 a0; let t3 := IntKind.i64.wrap (64 + t2); B.wide_noughts.p0 k a0 a1 t1 t2 t3
theorem B.wide_noughts.r (a0 : Int) (a1 : Int) : runF P G (tab L_B.cong_product) { merge := true } 60 Tryz.f217 [.agg #[.int .u64 a0, .int .u64 a1]] = B.wide_noughts.c (fun q => some (.int .i64 (q) : Value)) a0 a1 := by kernel_rfl
theorem B.wide_noughts.t : TabOK P G (tab L_B.wide_noughts) :=
  TabOK_mk C B.cong_product.t Tryz.func217 (by kernel_rfl) true 60 (by
    rintro ⟨⟨a0, ⟨a1, ⟨⟩⟩⟩, ⟨⟩⟩ h
    exact (B.wide_noughts.r a0 a1).trans (B.wide_noughts.p (fun q => some (.int .i64 (q) : Value)) a0 a1))
def B.wide_down.c0 {γ : Type} (n : γ) (k : Int × Int → γ) (a0 : Int) (a1 : Int) (b : Int) (t1 : Int) (t2 : Int) (t3 : Int) : γ := bif decide (b ≥ 64)
  then bif !decide (t1 < 0)
   then k (0, a0.fdiv (2 ^ min (IntKind.i64.wrap (b - 64)).toNat IntKind.u64.bits))
   else n
  else bif !decide (b < 0)
   then bif !decide (b < 0)
    then bif !decide (t2 < 0)
     then k (a0.fdiv (2 ^ min b.toNat IntKind.u64.bits), orI IntKind.u64 (a1.fdiv (2 ^ min b.toNat IntKind.u64.bits)) t3)
     else n
    else n
   else n
def B.wide_down.c {γ : Type} (n : γ) (k : Int × Int → γ) (a0 : Int) (a1 : Int) (b : Int) : γ := let t1 := IntKind.i64.wrap (b - 64); let t2 := IntKind.i64.wrap (64 - b); let t3 := IntKind.u64.wrap (a0 * 2 ^ min (IntKind.i64.wrap (64 - b)).toNat IntKind.u64.bits); B.wide_down.c0 n k a0 a1 b t1 t2 t3
def B.wide_down.ok (a0 : Int) (a1 : Int) (b : Int) : Bool := B.wide_down.c false (fun _ => true) a0 a1 b
def B.wide_down (a0 : Int) (a1 : Int) (b : Int) : Int × Int := B.wide_down.c (0, 0) id a0 a1 b
def B.wide_down.F : FV := mkF (cP (cA (cP (cI .u64) (cP (cI .u64) cU))) (cP (cI .i64) cU)) (fun | ((a0, (a1, ())), (b, ())) => B.wide_down.ok a0 a1 b) (fun | ((a0, (a1, ())), (b, ())) => .agg #[.int .u64 (B.wide_down a0 a1 b).1, .int .u64 (B.wide_down a0 a1 b).2])
def L_B.wide_down : TL := (251, B.wide_down.F) :: L_B.wide_noughts
theorem B.wide_down.p0 {γ : Type} (k : Int × Int → γ) (a0 : Int) (a1 : Int) (b : Int) (t1 : Int) (t2 : Int) (t3 : Int) : B.wide_down.c0 false (fun _ => true) a0 a1 b t1 t2 t3 = true → B.wide_down.c0 none (fun q => some (k q)) a0 a1 b t1 t2 t3 = some (k (B.wide_down.c0 (0, 0) id a0 a1 b t1 t2 t3)) := by
  unfold B.wide_down.c0; (repeat' (first | (apply pn k) | (exact pn_none _ _) | (exact pn_leaf k _)))
theorem B.wide_down.p {γ : Type} (k : Int × Int → γ) (a0 : Int) (a1 : Int) (b : Int) (h : B.wide_down.ok a0 a1 b = true) : B.wide_down.c none (fun q => some (k q)) a0 a1 b = some (k (B.wide_down a0 a1 b)) :=
  let t1 := IntKind.i64.wrap (b - 64); let t2 := IntKind.i64.wrap (64 - b); let t3 := IntKind.u64.wrap (a0 * 2 ^ min (IntKind.i64.wrap (64 - b)).toNat IntKind.u64.bits); B.wide_down.p0 k a0 a1 b t1 t2 t3 h
theorem B.wide_down.r (a0 : Int) (a1 : Int) (b : Int) : runF P G (tab L_B.wide_noughts) { merge := true } 60 Tryz.f251 [.agg #[.int .u64 a0, .int .u64 a1], .int .i64 b] = B.wide_down.c none (fun q => some (.agg #[.int .u64 (q).1, .int .u64 (q).2] : Value)) a0 a1 b := by kernel_rfl
theorem B.wide_down.t : TabOK P G (tab L_B.wide_down) :=
  TabOK_mk C B.wide_noughts.t Tryz.func251 (by kernel_rfl) true 60 (by
    rintro ⟨⟨a0, ⟨a1, ⟨⟩⟩⟩, ⟨b, ⟨⟩⟩⟩ h
    exact (B.wide_down.r a0 a1 b).trans (B.wide_down.p (fun q => (.agg #[.int .u64 (q).1, .int .u64 (q).2] : Value)) a0 a1 b h))
def B.wide_up.c0 {γ : Type} (n : γ) (k : Int × Int → γ) (a0 : Int) (a1 : Int) (b : Int) (t1 : Int) (t2 : Int) (t3 : Int) (t4 : Int) (t5 : Int) : γ := bif decide (b ≥ 64)
  then bif !decide (t1 < 0)
   then k (t2, 0)
   else n
  else bif !decide (b < 0)
   then bif !decide (t3 < 0)
    then bif !decide (b < 0)
     then k (orI IntKind.u64 t4 (a1.fdiv (2 ^ min (IntKind.i64.wrap (64 - b)).toNat IntKind.u64.bits)), t5)
     else n
    else n
   else n
def B.wide_up.c {γ : Type} (n : γ) (k : Int × Int → γ) (a0 : Int) (a1 : Int) (b : Int) : γ := let t1 := IntKind.i64.wrap (b - 64); let t2 := IntKind.u64.wrap (a1 * 2 ^ min (IntKind.i64.wrap (b - 64)).toNat IntKind.u64.bits); let t3 := IntKind.i64.wrap (64 - b); let t4 := IntKind.u64.wrap (a0 * 2 ^ min b.toNat IntKind.u64.bits); let t5 := IntKind.u64.wrap (a1 * 2 ^ min b.toNat IntKind.u64.bits); B.wide_up.c0 n k a0 a1 b t1 t2 t3 t4 t5
def B.wide_up.ok (a0 : Int) (a1 : Int) (b : Int) : Bool := B.wide_up.c false (fun _ => true) a0 a1 b
def B.wide_up (a0 : Int) (a1 : Int) (b : Int) : Int × Int := B.wide_up.c (0, 0) id a0 a1 b
def B.wide_up.F : FV := mkF (cP (cA (cP (cI .u64) (cP (cI .u64) cU))) (cP (cI .i64) cU)) (fun | ((a0, (a1, ())), (b, ())) => B.wide_up.ok a0 a1 b) (fun | ((a0, (a1, ())), (b, ())) => .agg #[.int .u64 (B.wide_up a0 a1 b).1, .int .u64 (B.wide_up a0 a1 b).2])
def L_B.wide_up : TL := (254, B.wide_up.F) :: L_B.wide_down
theorem B.wide_up.p0 {γ : Type} (k : Int × Int → γ) (a0 : Int) (a1 : Int) (b : Int) (t1 : Int) (t2 : Int) (t3 : Int) (t4 : Int) (t5 : Int) : B.wide_up.c0 false (fun _ => true) a0 a1 b t1 t2 t3 t4 t5 = true → B.wide_up.c0 none (fun q => some (k q)) a0 a1 b t1 t2 t3 t4 t5 = some (k (B.wide_up.c0 (0, 0) id a0 a1 b t1 t2 t3 t4 t5)) := by
  unfold B.wide_up.c0; (repeat' (first | (apply pn k) | (exact pn_none _ _) | (exact pn_leaf k _)))
theorem B.wide_up.p {γ : Type} (k : Int × Int → γ) (a0 : Int) (a1 : Int) (b : Int) (h : B.wide_up.ok a0 a1 b = true) : B.wide_up.c none (fun q => some (k q)) a0 a1 b = some (k (B.wide_up a0 a1 b)) :=
  let t1 := IntKind.i64.wrap (b - 64); let t2 := IntKind.u64.wrap (a1 * 2 ^ min (IntKind.i64.wrap (b - 64)).toNat IntKind.u64.bits); let t3 := IntKind.i64.wrap (64 - b); let t4 := IntKind.u64.wrap (a0 * 2 ^ min b.toNat IntKind.u64.bits); let t5 := IntKind.u64.wrap (a1 * 2 ^ min b.toNat IntKind.u64.bits); B.wide_up.p0 k a0 a1 b t1 t2 t3 t4 t5 h
theorem B.wide_up.r (a0 : Int) (a1 : Int) (b : Int) : runF P G (tab L_B.wide_down) { merge := true } 60 Tryz.f254 [.agg #[.int .u64 a0, .int .u64 a1], .int .i64 b] = B.wide_up.c none (fun q => some (.agg #[.int .u64 (q).1, .int .u64 (q).2] : Value)) a0 a1 b := by kernel_rfl
theorem B.wide_up.t : TabOK P G (tab L_B.wide_up) :=
  TabOK_mk C B.wide_down.t Tryz.func254 (by kernel_rfl) true 60 (by
    rintro ⟨⟨a0, ⟨a1, ⟨⟩⟩⟩, ⟨b, ⟨⟩⟩⟩ h
    exact (B.wide_up.r a0 a1 b).trans (B.wide_up.p (fun q => (.agg #[.int .u64 (q).1, .int .u64 (q).2] : Value)) a0 a1 b h))
end
end Go.Proofs.YtonpbbhlmapbdaaGreatDoor.V
