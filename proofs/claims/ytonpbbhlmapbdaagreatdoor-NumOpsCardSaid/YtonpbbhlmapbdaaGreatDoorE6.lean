/- What the functions of this seat compute, told by evaluation of their code. Conditions: none. -/
import Derived.Test.YtonpbbhlmapbdaaGreatDoorE5
set_option linter.unusedVariables false
set_option linter.unusedSimpArgs false
namespace Go.Proofs.YtonpbbhlmapbdaaGreatDoor.V
open Go Go.Wk
noncomputable section
def B.wide_below.c {γ : Type} (k : Bool → γ) (a0 : Int) (a1 : Int) (b0 : Int) (b1 : Int) : γ := bif decide (a0 < b0)
  then k (true)
  else bif a0 == b0
   then k (decide (a1 < b1))
   else k (false)
def B.wide_below (a0 : Int) (a1 : Int) (b0 : Int) (b1 : Int) : Bool := B.wide_below.c id a0 a1 b0 b1
def B.wide_below.F : FV := mkF (cP (cA (cP (cI .u64) (cP (cI .u64) cU))) (cP (cA (cP (cI .u64) (cP (cI .u64) cU))) cU)) (fun _ => true) (fun | ((a0, (a1, ())), ((b0, (b1, ())), ())) => .bool (B.wide_below a0 a1 b0 b1))
def L_B.wide_below : TL := (252, B.wide_below.F) :: L_B.wide_up
theorem B.wide_below.p {γ : Type} (k : Bool → γ) (a0 : Int) (a1 : Int) (b0 : Int) (b1 : Int) : B.wide_below.c k a0 a1 b0 b1 = k (B.wide_below a0 a1 b0 b1) := by
  unfold B.wide_below B.wide_below.c; (repeat' (first | (apply pc k) | (exact rfl)))
theorem B.wide_below.r (a0 : Int) (a1 : Int) (b0 : Int) (b1 : Int) : runF P G (tab L_B.wide_up) { merge := true } 60 Tryz.f252 [.agg #[.int .u64 a0, .int .u64 a1], .agg #[.int .u64 b0, .int .u64 b1]] = B.wide_below.c (fun q => some (.bool (q) : Value)) a0 a1 b0 b1 := by kernel_rfl
theorem B.wide_below.t : TabOK P G (tab L_B.wide_below) :=
  TabOK_mk C B.wide_up.t Tryz.func252 (by kernel_rfl) true 60 (by
    rintro ⟨⟨a0, ⟨a1, ⟨⟩⟩⟩, ⟨⟨b0, ⟨b1, ⟨⟩⟩⟩, ⟨⟩⟩⟩ h
    exact (B.wide_below.r a0 a1 b0 b1).trans (B.wide_below.p (fun q => some (.bool (q) : Value)) a0 a1 b0 b1))
def B.wide_less.c0 {γ : Type} (k : Int × Int → γ) (a0 : Int) (a1 : Int) (b0 : Int) (b1 : Int) (t1 : Int) (t2 : Int × Int) (t3 : Int) : γ := k (t3, t2.fst)
def B.wide_less.c {γ : Type} (k : Int × Int → γ) (a0 : Int) (a1 : Int) (b0 : Int) (b1 : Int) : γ := let t1 := IntKind.u64.wrap (a0 - b0); let t2 := bits_Sub64 a1 b1 0; let t3 := IntKind.u64.wrap (t1 - t2.snd); B.wide_less.c0 k a0 a1 b0 b1 t1 t2 t3
def B.wide_less (a0 : Int) (a1 : Int) (b0 : Int) (b1 : Int) : Int × Int := B.wide_less.c id a0 a1 b0 b1
def B.wide_less.F : FV := mkF (cP (cA (cP (cI .u64) (cP (cI .u64) cU))) (cP (cA (cP (cI .u64) (cP (cI .u64) cU))) cU)) (fun _ => true) (fun | ((a0, (a1, ())), ((b0, (b1, ())), ())) => .agg #[.int .u64 (B.wide_less a0 a1 b0 b1).1, .int .u64 (B.wide_less a0 a1 b0 b1).2])
def L_B.wide_less : TL := (253, B.wide_less.F) :: L_B.wide_below
theorem B.wide_less.p0 {γ : Type} (k : Int × Int → γ) (a0 : Int) (a1 : Int) (b0 : Int) (b1 : Int) (t1 : Int) (t2 : Int × Int) (t3 : Int) : B.wide_less.c0 k a0 a1 b0 b1 t1 t2 t3 = k (B.wide_less.c0 id a0 a1 b0 b1 t1 t2 t3) := by
  unfold B.wide_less.c0; (repeat' (first | (apply pc k) | (exact rfl)))
theorem B.wide_less.p {γ : Type} (k : Int × Int → γ) (a0 : Int) (a1 : Int) (b0 : Int) (b1 : Int) : B.wide_less.c k a0 a1 b0 b1 = k (B.wide_less a0 a1 b0 b1) :=
  let t1 := IntKind.u64.wrap (a0 - b0); let t2 := bits_Sub64 a1 b1 0; let t3 := IntKind.u64.wrap (t1 - t2.snd); B.wide_less.p0 k a0 a1 b0 b1 t1 t2 t3
theorem B.wide_less.r (a0 : Int) (a1 : Int) (b0 : Int) (b1 : Int) : runF P G (tab L_B.wide_below) { merge := true } 60 Tryz.f253 [.agg #[.int .u64 a0, .int .u64 a1], .agg #[.int .u64 b0, .int .u64 b1]] = B.wide_less.c (fun q => some (.agg #[.int .u64 (q).1, .int .u64 (q).2] : Value)) a0 a1 b0 b1 := by kernel_rfl
theorem B.wide_less.t : TabOK P G (tab L_B.wide_less) :=
  TabOK_mk C B.wide_below.t Tryz.func253 (by kernel_rfl) true 60 (by
    rintro ⟨⟨a0, ⟨a1, ⟨⟩⟩⟩, ⟨⟨b0, ⟨b1, ⟨⟩⟩⟩, ⟨⟩⟩⟩ h
    exact (B.wide_less.r a0 a1 b0 b1).trans (B.wide_less.p (fun q => some (.agg #[.int .u64 (q).1, .int .u64 (q).2] : Value)) a0 a1 b0 b1))
def B.cong_common.val (q : Int × Int) : Value := .agg #[.int .u64 (q).1, .int .u64 (q).2]
def B.cong_common.h : List (Nat × List Nat × Nat) := [(8, [2, 3, 4, 5], 3)]
def B.cong_common.e0 (q : Int × Int × Int × Int × Int × Int × Int) : St := { tmps := [.unk, .unk, .ptr 0 0, .ptr 1 0, .ptr 2 0, .val (.int .i64 (q).1), .unk, .unk, .unk, .unk, .unk, .unk, .unk, .unk, .unk, .unk, .unk, .unk, .unk, .unk, .unk, .unk, .unk, .unk, .unk, .unk, .unk, .unk, .unk, .unk, .unk, .unk, .unk, .unk, .unk, .unk, .unk, .unk, .unk, .unk, .unk, .unk], blks := [some ⟨[.val (.int .u64 (q).2.1), .val (.int .u64 (q).2.2.1)], 169⟩, some ⟨[.val (.int .u64 (q).2.2.2.1), .val (.int .u64 (q).2.2.2.2.1)], 169⟩, some ⟨[.val (.int .u64 (q).2.2.2.2.2.1), .val (.int .u64 (q).2.2.2.2.2.2)], 169⟩], saved := [] }
noncomputable def B.cong_common.B0 : Code := loopAt [1, 1, 1, 1, 0, 0] (fbody Tryz.f214)
noncomputable def B.cong_common.H (F0 : LSum) : Heads := { heads := B.cong_common.h, merge := true, sums := [(8, F0)] }
noncomputable def B.cong_common.H0  : Heads := { heads := B.cong_common.h, merge := true, sums := [] }
noncomputable def B.cong_common.K0 (F0 : LSum) : Xt → St → Option Value := kAt P G (tab L_B.wide_less) (B.cong_common.H F0) [1, 1, 1, 1, 0, 0] 60 (fbody Tryz.f214) (retK P G Tryz.f214)
def B.cong_common.l0.c0 {γ : Type} (k0 : Int × Int × Int × Int × Int × Int × Int → Option γ) (k : Int × Int → Option γ) (s5 : Int) (b0_0 : Int) (b0_1 : Int) (b1_0 : Int) (b1_1 : Int) (b2_0 : Int) (b2_1 : Int) (t1 : Int) (t2 : Bool) (t3 : Int × Int) (t4 : Bool) (t5 : Int) (t6 : Int) (t7 : Int) (t8 : Int) (t9 : Int × Int) (t10 : Bool) (t11 : Int × Int) : Option γ := bif !(b1_0 == 0 && (b1_1 == 0 && true))
  then bif t2
   then k0 (s5, t5, t6, t9.fst, t9.snd, b2_0, b2_1)
   else none
  else bif t10
   then k (t11.fst, t11.snd)
   else none
def B.cong_common.l0.c {γ : Type} (k0 : Int × Int × Int × Int × Int × Int × Int → Option γ) (k : Int × Int → Option γ) (s5 : Int) (b0_0 : Int) (b0_1 : Int) (b1_0 : Int) (b1_1 : Int) (b2_0 : Int) (b2_1 : Int) : Option γ := let t1 := B.wide_noughts b1_0 b1_1; let t2 := B.wide_down.ok b1_0 b1_1 t1; let t3 := B.wide_down b1_0 b1_1 t1; let t4 := B.wide_below t3.fst t3.snd b0_0 b0_1; let t5 := bif t4 then t3.fst else b0_0; let t6 := bif t4 then t3.snd else b0_1; let t7 := bif t4 then b0_0 else t3.fst; let t8 := bif t4 then b0_1 else t3.snd; let t9 := B.wide_less t7 t8 t5 t6; let t10 := B.wide_up.ok b0_0 b0_1 s5; let t11 := B.wide_up b0_0 b0_1 s5; B.cong_common.l0.c0 k0 k s5 b0_0 b0_1 b1_0 b1_1 b2_0 b2_1 t1 t2 t3 t4 t5 t6 t7 t8 t9 t10 t11
def B.cong_common.c0 {γ : Type} (k0 : Int × Int × Int × Int × Int × Int × Int → Option γ) (k : Int × Int → Option γ) (a0 : Int) (a1 : Int) (b0 : Int) (b1 : Int) (t1 : Int) (t2 : Bool) (t3 : Int) (t4 : Int) (t5 : Int × Int) : Option γ := bif 0 == a0 && (0 == a1 && true)
  then k (b0, b1)
  else bif 0 == b0 && (0 == b1 && true)
   then k (a0, a1)
   else bif t2
    then k0 (t4, t5.fst, t5.snd, b0, b1, 0, 0)
    else none
def B.cong_common.c {γ : Type} (k0 : Int × Int × Int × Int × Int × Int × Int → Option γ) (k : Int × Int → Option γ) (a0 : Int) (a1 : Int) (b0 : Int) (b1 : Int) : Option γ := let t1 := B.wide_noughts a0 a1; let t2 := B.wide_down.ok a0 a1 t1; let t3 := B.wide_noughts b0 b1; let t4 := if t3 < t1 then t3 else t1; let t5 := B.wide_down a0 a1 t1; B.cong_common.c0 k0 k a0 a1 b0 b1 t1 t2 t3 t4 t5
def B.cong_common.L0 (N : Nat)  : Nat → Int × Int × Int × Int × Int × Int × Int → Option (Int × Int)
  | 0, _ => none
  | m + 1, q => B.cong_common.l0.c (B.cong_common.L0 N m) some (q).1 (q).2.1 (q).2.2.1 (q).2.2.2.1 (q).2.2.2.2.1 (q).2.2.2.2.2.1 (q).2.2.2.2.2.2
def B.cong_common.o (N : Nat) (a0 : Int) (a1 : Int) (b0 : Int) (b1 : Int) : Option (Int × Int) := B.cong_common.c (B.cong_common.L0 N  N) some a0 a1 b0 b1
noncomputable def B.cong_common.S0 (N : Nat) : LSum := sumN P G (tab L_B.wide_less) (B.cong_common.H0 ) 60 B.cong_common.B0 N
theorem B.cong_common.l0.p0 {γ δ : Type} (f : γ → δ) (k0 : Int × Int × Int × Int × Int × Int × Int → Option γ) (k : Int × Int → Option γ) (s5 : Int) (b0_0 : Int) (b0_1 : Int) (b1_0 : Int) (b1_1 : Int) (b2_0 : Int) (b2_1 : Int) (t1 : Int) (t2 : Bool) (t3 : Int × Int) (t4 : Bool) (t5 : Int) (t6 : Int) (t7 : Int) (t8 : Int) (t9 : Int × Int) (t10 : Bool) (t11 : Int × Int) : B.cong_common.l0.c0 (fun q => (k0 q).map f) (fun q => (k q).map f) s5 b0_0 b0_1 b1_0 b1_1 b2_0 b2_1 t1 t2 t3 t4 t5 t6 t7 t8 t9 t10 t11 = (B.cong_common.l0.c0 k0 k s5 b0_0 b0_1 b1_0 b1_1 b2_0 b2_1 t1 t2 t3 t4 t5 t6 t7 t8 t9 t10 t11).map f := by
  unfold B.cong_common.l0.c0; (repeat' (first | (apply pm f) | (exact rfl)))
theorem B.cong_common.l0.p {γ δ : Type} (f : γ → δ) (k0 : Int × Int × Int × Int × Int × Int × Int → Option γ) (k : Int × Int → Option γ) (s5 : Int) (b0_0 : Int) (b0_1 : Int) (b1_0 : Int) (b1_1 : Int) (b2_0 : Int) (b2_1 : Int) : B.cong_common.l0.c (fun q => (k0 q).map f) (fun q => (k q).map f) s5 b0_0 b0_1 b1_0 b1_1 b2_0 b2_1 = (B.cong_common.l0.c k0 k s5 b0_0 b0_1 b1_0 b1_1 b2_0 b2_1).map f :=
  let t1 := B.wide_noughts b1_0 b1_1; let t2 := B.wide_down.ok b1_0 b1_1 t1; let t3 := B.wide_down b1_0 b1_1 t1; let t4 := B.wide_below t3.fst t3.snd b0_0 b0_1; let t5 := bif t4 then t3.fst else b0_0; let t6 := bif t4 then t3.snd else b0_1; let t7 := bif t4 then b0_0 else t3.fst; let t8 := bif t4 then b0_1 else t3.snd; let t9 := B.wide_less t7 t8 t5 t6; let t10 := B.wide_up.ok b0_0 b0_1 s5; let t11 := B.wide_up b0_0 b0_1 s5; B.cong_common.l0.p0 f k0 k s5 b0_0 b0_1 b1_0 b1_1 b2_0 b2_1 t1 t2 t3 t4 t5 t6 t7 t8 t9 t10 t11
theorem B.cong_common.p0 {γ δ : Type} (f : γ → δ) (k0 : Int × Int × Int × Int × Int × Int × Int → Option γ) (k : Int × Int → Option γ) (a0 : Int) (a1 : Int) (b0 : Int) (b1 : Int) (t1 : Int) (t2 : Bool) (t3 : Int) (t4 : Int) (t5 : Int × Int) : B.cong_common.c0 (fun q => (k0 q).map f) (fun q => (k q).map f) a0 a1 b0 b1 t1 t2 t3 t4 t5 = (B.cong_common.c0 k0 k a0 a1 b0 b1 t1 t2 t3 t4 t5).map f := by
  unfold B.cong_common.c0; (repeat' (first | (apply pm f) | (exact rfl)))
theorem B.cong_common.p {γ δ : Type} (f : γ → δ) (k0 : Int × Int × Int × Int × Int × Int × Int → Option γ) (k : Int × Int → Option γ) (a0 : Int) (a1 : Int) (b0 : Int) (b1 : Int) : B.cong_common.c (fun q => (k0 q).map f) (fun q => (k q).map f) a0 a1 b0 b1 = (B.cong_common.c k0 k a0 a1 b0 b1).map f :=
  let t1 := B.wide_noughts a0 a1; let t2 := B.wide_down.ok a0 a1 t1; let t3 := B.wide_noughts b0 b1; let t4 := if t3 < t1 then t3 else t1; let t5 := B.wide_down a0 a1 t1; B.cong_common.p0 f k0 k a0 a1 b0 b1 t1 t2 t3 t4 t5
theorem B.cong_common.S0.ok (N : Nat) : LoopsOK P G (B.cong_common.H0 ).sums B.cong_common.B0 := by
  refine LoopsOK_code fun i hi F hF => ?_
  have hlen : (loopsOf B.cong_common.B0).length = 0 := by kernel_rfl
  rw [hlen] at hi
  omega
theorem B.cong_common.S0.snd (N : Nat) : SoundL P G B.cong_common.B0 (B.cong_common.S0 N) := sumN_sound C.mixed C.names B.wide_less.t (B.cong_common.S0.ok N) N
theorem B.cong_common.l0.r (F0 G0 : LSum) (s5 : Int) (b0_0 : Int) (b0_1 : Int) (b1_0 : Int) (b1_1 : Int) (b2_0 : Int) (b2_1 : Int) : ex P G (tab L_B.wide_less) (B.cong_common.H0 ) 60 B.cong_common.B0 (B.cong_common.e0 (s5, b0_0, b0_1, b1_0, b1_1, b2_0, b2_1)) (roundK (B.cong_common.H0 ) B.cong_common.B0 G0 (B.cong_common.K0 F0)) = B.cong_common.l0.c (fun q => G0.run (B.cong_common.e0 q) (B.cong_common.K0 F0)) (fun q => some (B.cong_common.val q)) s5 b0_0 b0_1 b1_0 b1_1 b2_0 b2_1 := by kernel_rfl
theorem B.cong_common.r (F0 : LSum) (a0 : Int) (a1 : Int) (b0 : Int) (b1 : Int) : runF P G (tab L_B.wide_less) (B.cong_common.H F0) 60 Tryz.f214 [.agg #[.int .u64 a0, .int .u64 a1], .agg #[.int .u64 b0, .int .u64 b1]] = B.cong_common.c (fun q => F0.run (B.cong_common.e0 q) (B.cong_common.K0 F0)) (fun q => some (B.cong_common.val q)) a0 a1 b0 b1 := by kernel_rfl
theorem B.cong_common.L0.ok (N : Nat) (F0 : LSum)   : ∀ m q, (sumN P G (tab L_B.wide_less) (B.cong_common.H0 ) 60 B.cong_common.B0 m).run (B.cong_common.e0 q) (B.cong_common.K0 F0) = (B.cong_common.L0 N  m q).map B.cong_common.val
  | 0, q => rfl
  | m + 1, q => by
    have ih := B.cong_common.L0.ok N F0   m
    refine (sumN_run (n := m) rfl).trans ((B.cong_common.l0.r F0 (sumN P G (tab L_B.wide_less) (B.cong_common.H0 ) 60 B.cong_common.B0 m) (q).1 (q).2.1 (q).2.2.1 (q).2.2.2.1 (q).2.2.2.2.1 (q).2.2.2.2.2.1 (q).2.2.2.2.2.2).trans ?_)
    refine Eq.trans ?_ (B.cong_common.l0.p B.cong_common.val (B.cong_common.L0 N m) some (q).1 (q).2.1 (q).2.2.1 (q).2.2.2.1 (q).2.2.2.2.1 (q).2.2.2.2.2.1 (q).2.2.2.2.2.2)
    have e0 : (fun q => (sumN P G (tab L_B.wide_less) (B.cong_common.H0 ) 60 B.cong_common.B0 m).run (B.cong_common.e0 q) (B.cong_common.K0 F0)) = (fun q => ((B.cong_common.L0 N m) q).map B.cong_common.val) := funext ih
    rw [e0]; rfl
theorem B.cong_common.q (N : Nat) (a0 : Int) (a1 : Int) (b0 : Int) (b1 : Int) : runF P G (tab L_B.wide_less) (B.cong_common.H (B.cong_common.S0 N)) 60 Tryz.f214 [.agg #[.int .u64 a0, .int .u64 a1], .agg #[.int .u64 b0, .int .u64 b1]] = (B.cong_common.o N a0 a1 b0 b1).map B.cong_common.val := by
  have hk0 := B.cong_common.L0.ok N (B.cong_common.S0 N)   N
  refine (B.cong_common.r (B.cong_common.S0 N) a0 a1 b0 b1).trans ?_
  refine Eq.trans ?_ (B.cong_common.p B.cong_common.val (B.cong_common.L0 N  N) some a0 a1 b0 b1)
  have e0 : (fun q => (B.cong_common.S0 N).run (B.cong_common.e0 q) (B.cong_common.K0 (B.cong_common.S0 N))) = (fun q => ((B.cong_common.L0 N  N) q).map B.cong_common.val) := funext hk0
  rw [e0]; rfl
theorem B.cong_common.lok (N : Nat) : LoopsOK P G (B.cong_common.H (B.cong_common.S0 N)).sums (fbody Tryz.f214) := by
  refine LoopsOK_code fun i hi F hF => ?_
  have hlen : (loopsOf (fbody Tryz.f214)).length = 1 := by kernel_rfl
  rw [hlen] at hi
  match i, hi with
  | 0, _ => exact soundAt (B' := B.cong_common.B0) (by kernel_rfl) (by kernel_rfl) (B.cong_common.S0.snd N) hF
  | _ + 1, h => omega
def B.cong_common (a0 : Int) (a1 : Int) (b0 : Int) (b1 : Int) : Int × Int := hide ((B.cong_common.o (a0.toNat * 18446744073709551616 + a1.toNat + b0.toNat * 18446744073709551616 + b1.toNat + 2) a0 a1 b0 b1).getD (0, 0))
def B.cong_common.g (a0 : Int) (a1 : Int) (b0 : Int) (b1 : Int) : Bool := hide (B.cong_common.o (a0.toNat * 18446744073709551616 + a1.toNat + b0.toNat * 18446744073709551616 + b1.toNat + 2) a0 a1 b0 b1).isSome
theorem B.cong_common.s (a0 : Int) (a1 : Int) (b0 : Int) (b1 : Int) (h : B.cong_common.g a0 a1 b0 b1 = true) : B.cong_common.o (a0.toNat * 18446744073709551616 + a1.toNat + b0.toNat * 18446744073709551616 + b1.toNat + 2) a0 a1 b0 b1 = some (B.cong_common a0 a1 b0 b1) := by
  unfold B.cong_common.g at h; unfold B.cong_common; simp only [hide_eq] at h ⊢; revert h; cases B.cong_common.o (a0.toNat * 18446744073709551616 + a1.toNat + b0.toNat * 18446744073709551616 + b1.toNat + 2) a0 a1 b0 b1 <;> simp
def B.cong_common.F : FV := mkF (cP (cA (cP (cI .u64) (cP (cI .u64) cU))) (cP (cA (cP (cI .u64) (cP (cI .u64) cU))) cU)) (fun | ((a0, (a1, ())), ((b0, (b1, ())), ())) => B.cong_common.g a0 a1 b0 b1) (fun | ((a0, (a1, ())), ((b0, (b1, ())), ())) => B.cong_common.val (B.cong_common a0 a1 b0 b1))
def L_B.cong_common : TL := (214, B.cong_common.F) :: L_B.wide_less
theorem B.cong_common.t : TabOK P G (tab L_B.cong_common) :=
  TabOK_mkH C B.wide_less.t Tryz.func214 (by kernel_rfl) (fun | ((a0, (a1, ())), ((b0, (b1, ())), ())) => B.cong_common.H (B.cong_common.S0 (a0.toNat * 18446744073709551616 + a1.toNat + b0.toNat * 18446744073709551616 + b1.toNat + 2))) (by rintro ⟨⟨a0, ⟨a1, ⟨⟩⟩⟩, ⟨⟨b0, ⟨b1, ⟨⟩⟩⟩, ⟨⟩⟩⟩; exact B.cong_common.lok _) 60 (by
    rintro ⟨⟨a0, ⟨a1, ⟨⟩⟩⟩, ⟨⟨b0, ⟨b1, ⟨⟩⟩⟩, ⟨⟩⟩⟩ h
    exact (B.cong_common.q (a0.toNat * 18446744073709551616 + a1.toNat + b0.toNat * 18446744073709551616 + b1.toNat + 2) a0 a1 b0 b1).trans (congrArg (Option.map B.cong_common.val) (B.cong_common.s a0 a1 b0 b1 h)))
def B.cong_Mul.c0 {γ : Type} (n : γ) (k : Int × Int → γ) (a0 : Int) (a1 : Int) (b0 : Int) (b1 : Int) (c : Bool) (t1 : Int × Int) (t2 : Bool) (t3 : Int × Int) (t4 : Bool) (t5 : Int) (t6 : Int) (t7 : Int) (t8 : Int × Int) (t9 : Int) (t10 : Int × Int) (t11 : Int) (t12 : Int × Int) (t13 : Bool) (t14 : Int × Int) (t15 : Int × Int) (t16 : Bool) (t17 : Int × Int) (t18 : Int) (t19 : Int) (t20 : Int) (t21 : Int) (t22 : Int) (t23 : Int) (t24 : Int) (t25 : Bool) (t26 : Int) (t27 : Int) (t28 : Int) (t29 : Int) (t30 : Int) (t31 : Bool) (t32 : Int) : γ := bif t2
  then bif t4
   then k (t8.fst, t8.snd)
   else bif t1.fst == 0 && (t1.snd == 0 && true)
    then k (0, 0)
    else bif t3.fst == 0 && (t3.snd == 0 && true)
     then k (0, 0)
     else bif t13
      then bif t16
       then bif decide (t17.fst > 0)
        then bif !decide (t19 < 0)
         then bif t25
          then k (t22, t26)
          else n
         else n
        else bif t31
         then k (t28, t32)
         else n
       else n
      else n
  else bif t1.fst == 0 && (t1.snd == 0 && true)
   then k (0, 0)
   else bif t3.fst == 0 && (t3.snd == 0 && true)
    then k (0, 0)
    else bif t13
     then bif t16
      then bif decide (t17.fst > 0)
       then bif !decide (t19 < 0)
        then bif t25
         then k (t22, t26)
         else n
        else n
       else bif t31
        then k (t28, t32)
        else n
      else n
     else n
def B.cong_Mul.c {γ : Type} (n : γ) (k : Int × Int → γ) (a0 : Int) (a1 : Int) (b0 : Int) (b1 : Int) (c : Bool) : γ := let t1 := B.cong_Norm a0 a1; let t2 := B.cong_alone t1.fst t1.snd; let t3 := B.cong_Norm b0 b1; let t4 := B.cong_alone t3.fst t3.snd; let t5 := IntKind.i64.wrap t1.snd; let t6 := IntKind.i64.wrap t3.snd; let t7 := word_Mul t5 t6; let t8 := B.cong_Const t7; let t9 := B.cong_amount t1.fst t1.snd; let t10 := B.cong_product t9 t3.fst; let t11 := B.cong_amount t3.fst t3.snd; let t12 := B.cong_product t11 t1.fst; let t13 := B.cong_common.g t10.fst t10.snd t12.fst t12.snd; let t14 := B.cong_product t1.fst t3.fst; let t15 := B.cong_common t10.fst t10.snd t12.fst t12.snd; let t16 := B.cong_common.g t14.fst t14.snd t15.fst t15.snd; let t17 := B.cong_common t14.fst t14.snd t15.fst t15.snd; let t18 := B.wide_noughts t17.fst t17.snd; let t19 := if t18 < 63 then t18 else 63; let t20 := IntKind.u64.wrap (1 * 2 ^ min (if B.wide_noughts (B.cong_common (B.cong_product (B.cong_Norm a0 a1).fst (B.cong_Norm b0 b1).fst).fst (B.cong_product (B.cong_Norm a0 a1).fst (B.cong_Norm b0 b1).fst).snd (B.cong_common (B.cong_product (B.cong_amount (B.cong_Norm a0 a1).fst (B.cong_Norm a0 a1).snd) (B.cong_Norm b0 b1).fst).fst (B.cong_product (B.cong_amount (B.cong_Norm a0 a1).fst (B.cong_Norm a0 a1).snd) (B.cong_Norm b0 b1).fst).snd (B.cong_product (B.cong_amount (B.cong_Norm b0 b1).fst (B.cong_Norm b0 b1).snd) (B.cong_Norm a0 a1).fst).fst (B.cong_product (B.cong_amount (B.cong_Norm b0 b1).fst (B.cong_Norm b0 b1).snd) (B.cong_Norm a0 a1).fst).snd).fst (B.cong_common (B.cong_product (B.cong_amount (B.cong_Norm a0 a1).fst (B.cong_Norm a0 a1).snd) (B.cong_Norm b0 b1).fst).fst (B.cong_product (B.cong_amount (B.cong_Norm a0 a1).fst (B.cong_Norm a0 a1).snd) (B.cong_Norm b0 b1).fst).snd (B.cong_product (B.cong_amount (B.cong_Norm b0 b1).fst (B.cong_Norm b0 b1).snd) (B.cong_Norm a0 a1).fst).fst (B.cong_product (B.cong_amount (B.cong_Norm b0 b1).fst (B.cong_Norm b0 b1).snd) (B.cong_Norm a0 a1).fst).snd).snd).fst (B.cong_common (B.cong_product (B.cong_Norm a0 a1).fst (B.cong_Norm b0 b1).fst).fst (B.cong_product (B.cong_Norm a0 a1).fst (B.cong_Norm b0 b1).fst).snd (B.cong_common (B.cong_product (B.cong_amount (B.cong_Norm a0 a1).fst (B.cong_Norm a0 a1).snd) (B.cong_Norm b0 b1).fst).fst (B.cong_product (B.cong_amount (B.cong_Norm a0 a1).fst (B.cong_Norm a0 a1).snd) (B.cong_Norm b0 b1).fst).snd (B.cong_product (B.cong_amount (B.cong_Norm b0 b1).fst (B.cong_Norm b0 b1).snd) (B.cong_Norm a0 a1).fst).fst (B.cong_product (B.cong_amount (B.cong_Norm b0 b1).fst (B.cong_Norm b0 b1).snd) (B.cong_Norm a0 a1).fst).snd).fst (B.cong_common (B.cong_product (B.cong_amount (B.cong_Norm a0 a1).fst (B.cong_Norm a0 a1).snd) (B.cong_Norm b0 b1).fst).fst (B.cong_product (B.cong_amount (B.cong_Norm a0 a1).fst (B.cong_Norm a0 a1).snd) (B.cong_Norm b0 b1).fst).snd (B.cong_product (B.cong_amount (B.cong_Norm b0 b1).fst (B.cong_Norm b0 b1).snd) (B.cong_Norm a0 a1).fst).fst (B.cong_product (B.cong_amount (B.cong_Norm b0 b1).fst (B.cong_Norm b0 b1).snd) (B.cong_Norm a0 a1).fst).snd).snd).snd < 63 then B.wide_noughts (B.cong_common (B.cong_product (B.cong_Norm a0 a1).fst (B.cong_Norm b0 b1).fst).fst (B.cong_product (B.cong_Norm a0 a1).fst (B.cong_Norm b0 b1).fst).snd (B.cong_common (B.cong_product (B.cong_amount (B.cong_Norm a0 a1).fst (B.cong_Norm a0 a1).snd) (B.cong_Norm b0 b1).fst).fst (B.cong_product (B.cong_amount (B.cong_Norm a0 a1).fst (B.cong_Norm a0 a1).snd) (B.cong_Norm b0 b1).fst).snd (B.cong_product (B.cong_amount (B.cong_Norm b0 b1).fst (B.cong_Norm b0 b1).snd) (B.cong_Norm a0 a1).fst).fst (B.cong_product (B.cong_amount (B.cong_Norm b0 b1).fst (B.cong_Norm b0 b1).snd) (B.cong_Norm a0 a1).fst).snd).fst (B.cong_common (B.cong_product (B.cong_amount (B.cong_Norm a0 a1).fst (B.cong_Norm a0 a1).snd) (B.cong_Norm b0 b1).fst).fst (B.cong_product (B.cong_amount (B.cong_Norm a0 a1).fst (B.cong_Norm a0 a1).snd) (B.cong_Norm b0 b1).fst).snd (B.cong_product (B.cong_amount (B.cong_Norm b0 b1).fst (B.cong_Norm b0 b1).snd) (B.cong_Norm a0 a1).fst).fst (B.cong_product (B.cong_amount (B.cong_Norm b0 b1).fst (B.cong_Norm b0 b1).snd) (B.cong_Norm a0 a1).fst).snd).snd).fst (B.cong_common (B.cong_product (B.cong_Norm a0 a1).fst (B.cong_Norm b0 b1).fst).fst (B.cong_product (B.cong_Norm a0 a1).fst (B.cong_Norm b0 b1).fst).snd (B.cong_common (B.cong_product (B.cong_amount (B.cong_Norm a0 a1).fst (B.cong_Norm a0 a1).snd) (B.cong_Norm b0 b1).fst).fst (B.cong_product (B.cong_amount (B.cong_Norm a0 a1).fst (B.cong_Norm a0 a1).snd) (B.cong_Norm b0 b1).fst).snd (B.cong_product (B.cong_amount (B.cong_Norm b0 b1).fst (B.cong_Norm b0 b1).snd) (B.cong_Norm a0 a1).fst).fst (B.cong_product (B.cong_amount (B.cong_Norm b0 b1).fst (B.cong_Norm b0 b1).snd) (B.cong_Norm a0 a1).fst).snd).fst (B.cong_common (B.cong_product (B.cong_amount (B.cong_Norm a0 a1).fst (B.cong_Norm a0 a1).snd) (B.cong_Norm b0 b1).fst).fst (B.cong_product (B.cong_amount (B.cong_Norm a0 a1).fst (B.cong_Norm a0 a1).snd) (B.cong_Norm b0 b1).fst).snd (B.cong_product (B.cong_amount (B.cong_Norm b0 b1).fst (B.cong_Norm b0 b1).snd) (B.cong_Norm a0 a1).fst).fst (B.cong_product (B.cong_amount (B.cong_Norm b0 b1).fst (B.cong_Norm b0 b1).snd) (B.cong_Norm a0 a1).fst).snd).snd).snd else 63).toNat IntKind.u64.bits); let t21 := B.cong_two t20; let t22 := bif !false then t21 else t20; let t23 := B.cong_rest t1.fst t1.snd t22; let t24 := B.cong_rest t3.fst t3.snd t22; let t25 := B.cong_times.ok t23 t24 t22; let t26 := B.cong_times t23 t24 t22; let t27 := B.cong_two t17.snd; let t28 := bif !c then t27 else t17.snd; let t29 := B.cong_rest t1.fst t1.snd t28; let t30 := B.cong_rest t3.fst t3.snd t28; let t31 := B.cong_times.ok t29 t30 t28; let t32 := B.cong_times t29 t30 t28; B.cong_Mul.c0 n k a0 a1 b0 b1 c t1 t2 t3 t4 t5 t6 t7 t8 t9 t10 t11 t12 t13 t14 t15 t16 t17 t18 t19 t20 t21 t22 t23 t24 t25 t26 t27 t28 t29 t30 t31 t32
def B.cong_Mul.ok (a0 : Int) (a1 : Int) (b0 : Int) (b1 : Int) (c : Bool) : Bool := B.cong_Mul.c false (fun _ => true) a0 a1 b0 b1 c
def B.cong_Mul (a0 : Int) (a1 : Int) (b0 : Int) (b1 : Int) (c : Bool) : Int × Int := B.cong_Mul.c (0, 0) id a0 a1 b0 b1 c
def B.cong_Mul.F : FV := mkF (cP (cA (cP (cI .u64) (cP (cI .u64) cU))) (cP (cA (cP (cI .u64) (cP (cI .u64) cU))) (cP cB cU))) (fun | ((a0, (a1, ())), ((b0, (b1, ())), (c, ()))) => B.cong_Mul.ok a0 a1 b0 b1 c) (fun | ((a0, (a1, ())), ((b0, (b1, ())), (c, ()))) => .agg #[.int .u64 (B.cong_Mul a0 a1 b0 b1 c).1, .int .u64 (B.cong_Mul a0 a1 b0 b1 c).2])
def L_B.cong_Mul : TL := (123, B.cong_Mul.F) :: L_B.cong_common
theorem B.cong_Mul.p0 {γ : Type} (k : Int × Int → γ) (a0 : Int) (a1 : Int) (b0 : Int) (b1 : Int) (c : Bool) (t1 : Int × Int) (t2 : Bool) (t3 : Int × Int) (t4 : Bool) (t5 : Int) (t6 : Int) (t7 : Int) (t8 : Int × Int) (t9 : Int) (t10 : Int × Int) (t11 : Int) (t12 : Int × Int) (t13 : Bool) (t14 : Int × Int) (t15 : Int × Int) (t16 : Bool) (t17 : Int × Int) (t18 : Int) (t19 : Int) (t20 : Int) (t21 : Int) (t22 : Int) (t23 : Int) (t24 : Int) (t25 : Bool) (t26 : Int) (t27 : Int) (t28 : Int) (t29 : Int) (t30 : Int) (t31 : Bool) (t32 : Int) : B.cong_Mul.c0 false (fun _ => true) a0 a1 b0 b1 c t1 t2 t3 t4 t5 t6 t7 t8 t9 t10 t11 t12 t13 t14 t15 t16 t17 t18 t19 t20 t21 t22 t23 t24 t25 t26 t27 t28 t29 t30 t31 t32 = true → B.cong_Mul.c0 none (fun q => some (k q)) a0 a1 b0 b1 c t1 t2 t3 t4 t5 t6 t7 t8 t9 t10 t11 t12 t13 t14 t15 t16 t17 t18 t19 t20 t21 t22 t23 t24 t25 t26 t27 t28 t29 t30 t31 t32 = some (k (B.cong_Mul.c0 (0, 0) id a0 a1 b0 b1 c t1 t2 t3 t4 t5 t6 t7 t8 t9 t10 t11 t12 t13 t14 t15 t16 t17 t18 t19 t20 t21 t22 t23 t24 t25 t26 t27 t28 t29 t30 t31 t32)) := by
  unfold B.cong_Mul.c0; (repeat' (first | (apply pn k) | (exact pn_none _ _) | (exact pn_leaf k _)))
theorem B.cong_Mul.p {γ : Type} (k : Int × Int → γ) (a0 : Int) (a1 : Int) (b0 : Int) (b1 : Int) (c : Bool) (h : B.cong_Mul.ok a0 a1 b0 b1 c = true) : B.cong_Mul.c none (fun q => some (k q)) a0 a1 b0 b1 c = some (k (B.cong_Mul a0 a1 b0 b1 c)) :=
  let t1 := B.cong_Norm a0 a1; let t2 := B.cong_alone t1.fst t1.snd; let t3 := B.cong_Norm b0 b1; let t4 := B.cong_alone t3.fst t3.snd; let t5 := IntKind.i64.wrap t1.snd; let t6 := IntKind.i64.wrap t3.snd; let t7 := word_Mul t5 t6; let t8 := B.cong_Const t7; let t9 := B.cong_amount t1.fst t1.snd; let t10 := B.cong_product t9 t3.fst; let t11 := B.cong_amount t3.fst t3.snd; let t12 := B.cong_product t11 t1.fst; let t13 := B.cong_common.g t10.fst t10.snd t12.fst t12.snd; let t14 := B.cong_product t1.fst t3.fst; let t15 := B.cong_common t10.fst t10.snd t12.fst t12.snd; let t16 := B.cong_common.g t14.fst t14.snd t15.fst t15.snd; let t17 := B.cong_common t14.fst t14.snd t15.fst t15.snd; let t18 := B.wide_noughts t17.fst t17.snd; let t19 := if t18 < 63 then t18 else 63; let t20 := IntKind.u64.wrap (1 * 2 ^ min (if B.wide_noughts (B.cong_common (B.cong_product (B.cong_Norm a0 a1).fst (B.cong_Norm b0 b1).fst).fst (B.cong_product (B.cong_Norm a0 a1).fst (B.cong_Norm b0 b1).fst).snd (B.cong_common (B.cong_product (B.cong_amount (B.cong_Norm a0 a1).fst (B.cong_Norm a0 a1).snd) (B.cong_Norm b0 b1).fst).fst (B.cong_product (B.cong_amount (B.cong_Norm a0 a1).fst (B.cong_Norm a0 a1).snd) (B.cong_Norm b0 b1).fst).snd (B.cong_product (B.cong_amount (B.cong_Norm b0 b1).fst (B.cong_Norm b0 b1).snd) (B.cong_Norm a0 a1).fst).fst (B.cong_product (B.cong_amount (B.cong_Norm b0 b1).fst (B.cong_Norm b0 b1).snd) (B.cong_Norm a0 a1).fst).snd).fst (B.cong_common (B.cong_product (B.cong_amount (B.cong_Norm a0 a1).fst (B.cong_Norm a0 a1).snd) (B.cong_Norm b0 b1).fst).fst (B.cong_product (B.cong_amount (B.cong_Norm a0 a1).fst (B.cong_Norm a0 a1).snd) (B.cong_Norm b0 b1).fst).snd (B.cong_product (B.cong_amount (B.cong_Norm b0 b1).fst (B.cong_Norm b0 b1).snd) (B.cong_Norm a0 a1).fst).fst (B.cong_product (B.cong_amount (B.cong_Norm b0 b1).fst (B.cong_Norm b0 b1).snd) (B.cong_Norm a0 a1).fst).snd).snd).fst (B.cong_common (B.cong_product (B.cong_Norm a0 a1).fst (B.cong_Norm b0 b1).fst).fst (B.cong_product (B.cong_Norm a0 a1).fst (B.cong_Norm b0 b1).fst).snd (B.cong_common (B.cong_product (B.cong_amount (B.cong_Norm a0 a1).fst (B.cong_Norm a0 a1).snd) (B.cong_Norm b0 b1).fst).fst (B.cong_product (B.cong_amount (B.cong_Norm a0 a1).fst (B.cong_Norm a0 a1).snd) (B.cong_Norm b0 b1).fst).snd (B.cong_product (B.cong_amount (B.cong_Norm b0 b1).fst (B.cong_Norm b0 b1).snd) (B.cong_Norm a0 a1).fst).fst (B.cong_product (B.cong_amount (B.cong_Norm b0 b1).fst (B.cong_Norm b0 b1).snd) (B.cong_Norm a0 a1).fst).snd).fst (B.cong_common (B.cong_product (B.cong_amount (B.cong_Norm a0 a1).fst (B.cong_Norm a0 a1).snd) (B.cong_Norm b0 b1).fst).fst (B.cong_product (B.cong_amount (B.cong_Norm a0 a1).fst (B.cong_Norm a0 a1).snd) (B.cong_Norm b0 b1).fst).snd (B.cong_product (B.cong_amount (B.cong_Norm b0 b1).fst (B.cong_Norm b0 b1).snd) (B.cong_Norm a0 a1).fst).fst (B.cong_product (B.cong_amount (B.cong_Norm b0 b1).fst (B.cong_Norm b0 b1).snd) (B.cong_Norm a0 a1).fst).snd).snd).snd < 63 then B.wide_noughts (B.cong_common (B.cong_product (B.cong_Norm a0 a1).fst (B.cong_Norm b0 b1).fst).fst (B.cong_product (B.cong_Norm a0 a1).fst (B.cong_Norm b0 b1).fst).snd (B.cong_common (B.cong_product (B.cong_amount (B.cong_Norm a0 a1).fst (B.cong_Norm a0 a1).snd) (B.cong_Norm b0 b1).fst).fst (B.cong_product (B.cong_amount (B.cong_Norm a0 a1).fst (B.cong_Norm a0 a1).snd) (B.cong_Norm b0 b1).fst).snd (B.cong_product (B.cong_amount (B.cong_Norm b0 b1).fst (B.cong_Norm b0 b1).snd) (B.cong_Norm a0 a1).fst).fst (B.cong_product (B.cong_amount (B.cong_Norm b0 b1).fst (B.cong_Norm b0 b1).snd) (B.cong_Norm a0 a1).fst).snd).fst (B.cong_common (B.cong_product (B.cong_amount (B.cong_Norm a0 a1).fst (B.cong_Norm a0 a1).snd) (B.cong_Norm b0 b1).fst).fst (B.cong_product (B.cong_amount (B.cong_Norm a0 a1).fst (B.cong_Norm a0 a1).snd) (B.cong_Norm b0 b1).fst).snd (B.cong_product (B.cong_amount (B.cong_Norm b0 b1).fst (B.cong_Norm b0 b1).snd) (B.cong_Norm a0 a1).fst).fst (B.cong_product (B.cong_amount (B.cong_Norm b0 b1).fst (B.cong_Norm b0 b1).snd) (B.cong_Norm a0 a1).fst).snd).snd).fst (B.cong_common (B.cong_product (B.cong_Norm a0 a1).fst (B.cong_Norm b0 b1).fst).fst (B.cong_product (B.cong_Norm a0 a1).fst (B.cong_Norm b0 b1).fst).snd (B.cong_common (B.cong_product (B.cong_amount (B.cong_Norm a0 a1).fst (B.cong_Norm a0 a1).snd) (B.cong_Norm b0 b1).fst).fst (B.cong_product (B.cong_amount (B.cong_Norm a0 a1).fst (B.cong_Norm a0 a1).snd) (B.cong_Norm b0 b1).fst).snd (B.cong_product (B.cong_amount (B.cong_Norm b0 b1).fst (B.cong_Norm b0 b1).snd) (B.cong_Norm a0 a1).fst).fst (B.cong_product (B.cong_amount (B.cong_Norm b0 b1).fst (B.cong_Norm b0 b1).snd) (B.cong_Norm a0 a1).fst).snd).fst (B.cong_common (B.cong_product (B.cong_amount (B.cong_Norm a0 a1).fst (B.cong_Norm a0 a1).snd) (B.cong_Norm b0 b1).fst).fst (B.cong_product (B.cong_amount (B.cong_Norm a0 a1).fst (B.cong_Norm a0 a1).snd) (B.cong_Norm b0 b1).fst).snd (B.cong_product (B.cong_amount (B.cong_Norm b0 b1).fst (B.cong_Norm b0 b1).snd) (B.cong_Norm a0 a1).fst).fst (B.cong_product (B.cong_amount (B.cong_Norm b0 b1).fst (B.cong_Norm b0 b1).snd) (B.cong_Norm a0 a1).fst).snd).snd).snd else 63).toNat IntKind.u64.bits); let t21 := B.cong_two t20; let t22 := bif !false then t21 else t20; let t23 := B.cong_rest t1.fst t1.snd t22; let t24 := B.cong_rest t3.fst t3.snd t22; let t25 := B.cong_times.ok t23 t24 t22; let t26 := B.cong_times t23 t24 t22; let t27 := B.cong_two t17.snd; let t28 := bif !c then t27 else t17.snd; let t29 := B.cong_rest t1.fst t1.snd t28; let t30 := B.cong_rest t3.fst t3.snd t28; let t31 := B.cong_times.ok t29 t30 t28; let t32 := B.cong_times t29 t30 t28; B.cong_Mul.p0 k a0 a1 b0 b1 c t1 t2 t3 t4 t5 t6 t7 t8 t9 t10 t11 t12 t13 t14 t15 t16 t17 t18 t19 t20 t21 t22 t23 t24 t25 t26 t27 t28 t29 t30 t31 t32 h
theorem B.cong_Mul.r (a0 : Int) (a1 : Int) (b0 : Int) (b1 : Int) (c : Bool) : runF P G (tab L_B.cong_common) { merge := true } 60 Tryz.f123 [.agg #[.int .u64 a0, .int .u64 a1], .agg #[.int .u64 b0, .int .u64 b1], .bool c] = B.cong_Mul.c none (fun q => some (.agg #[.int .u64 (q).1, .int .u64 (q).2] : Value)) a0 a1 b0 b1 c := by kernel_rfl
theorem B.cong_Mul.t : TabOK P G (tab L_B.cong_Mul) :=
  TabOK_mk C B.cong_common.t Tryz.func123 (by kernel_rfl) true 60 (by
    rintro ⟨⟨a0, ⟨a1, ⟨⟩⟩⟩, ⟨⟨b0, ⟨b1, ⟨⟩⟩⟩, ⟨c, ⟨⟩⟩⟩⟩ h
    exact (B.cong_Mul.r a0 a1 b0 b1 c).trans (B.cong_Mul.p (fun q => (.agg #[.int .u64 (q).1, .int .u64 (q).2] : Value)) a0 a1 b0 b1 c h))
def B.cong_Div.c0 {γ : Type} (n : γ) (k : Int × Int → γ) (a0 : Int) (a1 : Int) (b0 : Int) (b1 : Int) (t1 : Int × Int) (t2 : Bool) (t3 : Int) (t4 : Int × Int) (t5 : Bool) (t6 : Int) (t7 : Int × Bool) (t8 : Int × Int) (t9 : Int) (t10 : Int) (t11 : Int) (t12 : Int) (t13 : Int) (t14 : Bool) (t15 : Int) (t16 : Int) (t17 : Int) : γ := bif !t2
  then k (1, 0)
  else bif t3 == 0
   then k (1, 0)
   else bif t5
    then k (t8.fst, t8.snd)
    else bif t3 == -1
     then k (1, 0)
     else bif !decide (t12 = 0)
      then bif t4.fst.tmod t12 != 0
       then k (1, 0)
       else bif !decide (t12 = 0)
        then bif t4.snd.tmod t12 != 0
         then k (1, 0)
         else bif !decide (t12 = 0)
          then bif !decide (t12 = 0)
           then bif !decide (t13 = 0) && true && true || t14
            then k (t13, t17)
            else n
           else n
          else n
        else n
      else n
def B.cong_Div.c {γ : Type} (n : γ) (k : Int × Int → γ) (a0 : Int) (a1 : Int) (b0 : Int) (b1 : Int) : γ := let t1 := B.cong_Norm b0 b1; let t2 := B.cong_alone t1.fst t1.snd; let t3 := IntKind.i64.wrap t1.snd; let t4 := B.cong_Norm a0 a1; let t5 := B.cong_alone t4.fst t4.snd; let t6 := IntKind.i64.wrap t4.snd; let t7 := word_Div t6 t3; let t8 := B.cong_Const t7.fst; let t9 := IntKind.i64.wrap (0 - t3); let t10 := if t9 > t3 then t9 else t3; let t11 := IntKind.u64.wrap t10; let t12 := bif t3 == -9223372036854775808 then 9223372036854775808 else t11; let t13 := IntKind.u64.wrap (t4.fst.tdiv t12); let t14 := bif decide (t3 < 0) then !decide (t13 = 0) && true else true; let t15 := IntKind.u64.wrap (t4.snd.tdiv t12); let t16 := B.cong_minus 0 t15 t13; let t17 := bif decide (t3 < 0) then t16.tmod t13 else t15; B.cong_Div.c0 n k a0 a1 b0 b1 t1 t2 t3 t4 t5 t6 t7 t8 t9 t10 t11 t12 t13 t14 t15 t16 t17
def B.cong_Div.ok (a0 : Int) (a1 : Int) (b0 : Int) (b1 : Int) : Bool := B.cong_Div.c false (fun _ => true) a0 a1 b0 b1
def B.cong_Div (a0 : Int) (a1 : Int) (b0 : Int) (b1 : Int) : Int × Int := B.cong_Div.c (0, 0) id a0 a1 b0 b1
def B.cong_Div.F : FV := mkF (cP (cA (cP (cI .u64) (cP (cI .u64) cU))) (cP (cA (cP (cI .u64) (cP (cI .u64) cU))) cU)) (fun | ((a0, (a1, ())), ((b0, (b1, ())), ())) => B.cong_Div.ok a0 a1 b0 b1) (fun | ((a0, (a1, ())), ((b0, (b1, ())), ())) => .agg #[.int .u64 (B.cong_Div a0 a1 b0 b1).1, .int .u64 (B.cong_Div a0 a1 b0 b1).2])
def L_B.cong_Div : TL := (126, B.cong_Div.F) :: L_B.cong_Mul
theorem B.cong_Div.p0 {γ : Type} (k : Int × Int → γ) (a0 : Int) (a1 : Int) (b0 : Int) (b1 : Int) (t1 : Int × Int) (t2 : Bool) (t3 : Int) (t4 : Int × Int) (t5 : Bool) (t6 : Int) (t7 : Int × Bool) (t8 : Int × Int) (t9 : Int) (t10 : Int) (t11 : Int) (t12 : Int) (t13 : Int) (t14 : Bool) (t15 : Int) (t16 : Int) (t17 : Int) : B.cong_Div.c0 false (fun _ => true) a0 a1 b0 b1 t1 t2 t3 t4 t5 t6 t7 t8 t9 t10 t11 t12 t13 t14 t15 t16 t17 = true → B.cong_Div.c0 none (fun q => some (k q)) a0 a1 b0 b1 t1 t2 t3 t4 t5 t6 t7 t8 t9 t10 t11 t12 t13 t14 t15 t16 t17 = some (k (B.cong_Div.c0 (0, 0) id a0 a1 b0 b1 t1 t2 t3 t4 t5 t6 t7 t8 t9 t10 t11 t12 t13 t14 t15 t16 t17)) := by
  unfold B.cong_Div.c0; (repeat' (first | (apply pn k) | (exact pn_none _ _) | (exact pn_leaf k _)))
theorem B.cong_Div.p {γ : Type} (k : Int × Int → γ) (a0 : Int) (a1 : Int) (b0 : Int) (b1 : Int) (h : B.cong_Div.ok a0 a1 b0 b1 = true) : B.cong_Div.c none (fun q => some (k q)) a0 a1 b0 b1 = some (k (B.cong_Div a0 a1 b0 b1)) :=
  let t1 := B.cong_Norm b0 b1; let t2 := B.cong_alone t1.fst t1.snd; let t3 := IntKind.i64.wrap t1.snd; let t4 := B.cong_Norm a0 a1; let t5 := B.cong_alone t4.fst t4.snd; let t6 := IntKind.i64.wrap t4.snd; let t7 := word_Div t6 t3; let t8 := B.cong_Const t7.fst; let t9 := IntKind.i64.wrap (0 - t3); let t10 := if t9 > t3 then t9 else t3; let t11 := IntKind.u64.wrap t10; let t12 := bif t3 == -9223372036854775808 then 9223372036854775808 else t11; let t13 := IntKind.u64.wrap (t4.fst.tdiv t12); let t14 := bif decide (t3 < 0) then !decide (t13 = 0) && true else true; let t15 := IntKind.u64.wrap (t4.snd.tdiv t12); let t16 := B.cong_minus 0 t15 t13; let t17 := bif decide (t3 < 0) then t16.tmod t13 else t15; B.cong_Div.p0 k a0 a1 b0 b1 t1 t2 t3 t4 t5 t6 t7 t8 t9 t10 t11 t12 t13 t14 t15 t16 t17 h
theorem B.cong_Div.r (a0 : Int) (a1 : Int) (b0 : Int) (b1 : Int) : runF P G (tab L_B.cong_Mul) { merge := true } 60 Tryz.f126 [.agg #[.int .u64 a0, .int .u64 a1], .agg #[.int .u64 b0, .int .u64 b1]] = B.cong_Div.c none (fun q => some (.agg #[.int .u64 (q).1, .int .u64 (q).2] : Value)) a0 a1 b0 b1 := by kernel_rfl
theorem B.cong_Div.t : TabOK P G (tab L_B.cong_Div) :=
  TabOK_mk C B.cong_Mul.t Tryz.func126 (by kernel_rfl) true 60 (by
    rintro ⟨⟨a0, ⟨a1, ⟨⟩⟩⟩, ⟨⟨b0, ⟨b1, ⟨⟩⟩⟩, ⟨⟩⟩⟩ h
    exact (B.cong_Div.r a0 a1 b0 b1).trans (B.cong_Div.p (fun q => (.agg #[.int .u64 (q).1, .int .u64 (q).2] : Value)) a0 a1 b0 b1 h))
def B.cong_Rem.c0 {γ : Type} (n : γ) (k : Int × Int → γ) (a0 : Int) (a1 : Int) (b0 : Int) (b1 : Int) (t1 : Int × Int) (t2 : Int × Int) (t3 : Bool) (t4 : Bool) (t5 : Int) (t6 : Int) (t7 : Int × Bool) (t8 : Int × Int) (t9 : Bool) (t10 : Int) (t11 : Bool) (t12 : Int) (t13 : Int) (t14 : Int) (t15 : Bool) (t16 : Int) (t17 : Int) (t18 : Bool) (t19 : Int) (t20 : Int) : γ := bif t1.fst == 0 && (t1.snd == 0 && true)
  then k (1, 0)
  else bif t3
   then bif t4
    then k (t8.fst, t8.snd)
    else bif t4
     then bif t9
      then bif t11
       then bif t15
        then k (t16, t17)
        else n
       else n
      else n
     else bif t9
      then bif t11
       then bif t18
        then k (t19, t20)
        else n
       else n
      else n
   else bif t4
    then bif t9
     then bif t11
      then bif t15
       then k (t16, t17)
       else n
      else n
     else n
    else bif t9
     then bif t11
      then bif t18
       then k (t19, t20)
       else n
      else n
     else n
def B.cong_Rem.c {γ : Type} (n : γ) (k : Int × Int → γ) (a0 : Int) (a1 : Int) (b0 : Int) (b1 : Int) : γ := let t1 := B.cong_Norm b0 b1; let t2 := B.cong_Norm a0 a1; let t3 := B.cong_alone t2.fst t2.snd; let t4 := B.cong_alone t1.fst t1.snd; let t5 := IntKind.i64.wrap t2.snd; let t6 := IntKind.i64.wrap t1.snd; let t7 := word_Rem t5 t6; let t8 := B.cong_Const t7.fst; let t9 := word_Gcd.g 0 t2.fst; let t10 := word_Gcd 0 t2.fst; let t11 := word_Gcd.g t10 t1.fst; let t12 := word_Gcd t10 t1.fst; let t13 := IntKind.u64.wrap (0 - t1.snd); let t14 := bif decide (t6 < 0) then t13 else t1.snd; let t15 := word_Gcd.g t12 t14; let t16 := word_Gcd t12 t14; let t17 := B.cong_rest t2.fst t2.snd t16; let t18 := word_Gcd.g t12 t1.snd; let t19 := word_Gcd t12 t1.snd; let t20 := B.cong_rest t2.fst t2.snd t19; B.cong_Rem.c0 n k a0 a1 b0 b1 t1 t2 t3 t4 t5 t6 t7 t8 t9 t10 t11 t12 t13 t14 t15 t16 t17 t18 t19 t20
def B.cong_Rem.ok (a0 : Int) (a1 : Int) (b0 : Int) (b1 : Int) : Bool := B.cong_Rem.c false (fun _ => true) a0 a1 b0 b1
def B.cong_Rem (a0 : Int) (a1 : Int) (b0 : Int) (b1 : Int) : Int × Int := B.cong_Rem.c (0, 0) id a0 a1 b0 b1
def B.cong_Rem.F : FV := mkF (cP (cA (cP (cI .u64) (cP (cI .u64) cU))) (cP (cA (cP (cI .u64) (cP (cI .u64) cU))) cU)) (fun | ((a0, (a1, ())), ((b0, (b1, ())), ())) => B.cong_Rem.ok a0 a1 b0 b1) (fun | ((a0, (a1, ())), ((b0, (b1, ())), ())) => .agg #[.int .u64 (B.cong_Rem a0 a1 b0 b1).1, .int .u64 (B.cong_Rem a0 a1 b0 b1).2])
def L_B.cong_Rem : TL := (129, B.cong_Rem.F) :: L_B.cong_Div
theorem B.cong_Rem.p0 {γ : Type} (k : Int × Int → γ) (a0 : Int) (a1 : Int) (b0 : Int) (b1 : Int) (t1 : Int × Int) (t2 : Int × Int) (t3 : Bool) (t4 : Bool) (t5 : Int) (t6 : Int) (t7 : Int × Bool) (t8 : Int × Int) (t9 : Bool) (t10 : Int) (t11 : Bool) (t12 : Int) (t13 : Int) (t14 : Int) (t15 : Bool) (t16 : Int) (t17 : Int) (t18 : Bool) (t19 : Int) (t20 : Int) : B.cong_Rem.c0 false (fun _ => true) a0 a1 b0 b1 t1 t2 t3 t4 t5 t6 t7 t8 t9 t10 t11 t12 t13 t14 t15 t16 t17 t18 t19 t20 = true → B.cong_Rem.c0 none (fun q => some (k q)) a0 a1 b0 b1 t1 t2 t3 t4 t5 t6 t7 t8 t9 t10 t11 t12 t13 t14 t15 t16 t17 t18 t19 t20 = some (k (B.cong_Rem.c0 (0, 0) id a0 a1 b0 b1 t1 t2 t3 t4 t5 t6 t7 t8 t9 t10 t11 t12 t13 t14 t15 t16 t17 t18 t19 t20)) := by
  unfold B.cong_Rem.c0; (repeat' (first | (apply pn k) | (exact pn_none _ _) | (exact pn_leaf k _)))
theorem B.cong_Rem.p {γ : Type} (k : Int × Int → γ) (a0 : Int) (a1 : Int) (b0 : Int) (b1 : Int) (h : B.cong_Rem.ok a0 a1 b0 b1 = true) : B.cong_Rem.c none (fun q => some (k q)) a0 a1 b0 b1 = some (k (B.cong_Rem a0 a1 b0 b1)) :=
  let t1 := B.cong_Norm b0 b1; let t2 := B.cong_Norm a0 a1; let t3 := B.cong_alone t2.fst t2.snd; let t4 := B.cong_alone t1.fst t1.snd; let t5 := IntKind.i64.wrap t2.snd; let t6 := IntKind.i64.wrap t1.snd; let t7 := word_Rem t5 t6; let t8 := B.cong_Const t7.fst; let t9 := word_Gcd.g 0 t2.fst; let t10 := word_Gcd 0 t2.fst; let t11 := word_Gcd.g t10 t1.fst; let t12 := word_Gcd t10 t1.fst; let t13 := IntKind.u64.wrap (0 - t1.snd); let t14 := bif decide (t6 < 0) then t13 else t1.snd; let t15 := word_Gcd.g t12 t14; let t16 := word_Gcd t12 t14; let t17 := B.cong_rest t2.fst t2.snd t16; let t18 := word_Gcd.g t12 t1.snd; let t19 := word_Gcd t12 t1.snd; let t20 := B.cong_rest t2.fst t2.snd t19; B.cong_Rem.p0 k a0 a1 b0 b1 t1 t2 t3 t4 t5 t6 t7 t8 t9 t10 t11 t12 t13 t14 t15 t16 t17 t18 t19 t20 h
theorem B.cong_Rem.r (a0 : Int) (a1 : Int) (b0 : Int) (b1 : Int) : runF P G (tab L_B.cong_Div) { merge := true } 60 Tryz.f129 [.agg #[.int .u64 a0, .int .u64 a1], .agg #[.int .u64 b0, .int .u64 b1]] = B.cong_Rem.c none (fun q => some (.agg #[.int .u64 (q).1, .int .u64 (q).2] : Value)) a0 a1 b0 b1 := by kernel_rfl
theorem B.cong_Rem.t : TabOK P G (tab L_B.cong_Rem) :=
  TabOK_mk C B.cong_Div.t Tryz.func129 (by kernel_rfl) true 60 (by
    rintro ⟨⟨a0, ⟨a1, ⟨⟩⟩⟩, ⟨⟨b0, ⟨b1, ⟨⟩⟩⟩, ⟨⟩⟩⟩ h
    exact (B.cong_Rem.r a0 a1 b0 b1).trans (B.cong_Rem.p (fun q => (.agg #[.int .u64 (q).1, .int .u64 (q).2] : Value)) a0 a1 b0 b1 h))
def B.ref_Two.val (q : Int) : Value := .int .u64 (q)
def B.ref_Two.h : List (Nat × List Nat × Nat) := [(2, [1, 3], 1)]
def B.ref_Two.e0 (q : Int × Int × Int) : St := { tmps := [.unk, .ptr 0 0, .unk, .val (.int .i64 (q).1), .unk, .unk, .unk, .unk, .unk, .unk, .unk, .unk, .unk, .unk], blks := [some ⟨[.val (.int .u64 (q).2.1), .val (.int .u64 (q).2.2)], 117⟩], saved := [] }
noncomputable def B.ref_Two.B0 : Code := loopAt [1, 0, 1, 0] (fbody Tryz.f230)
noncomputable def B.ref_Two.H (F0 : LSum) : Heads := { heads := B.ref_Two.h, merge := true, sums := [(2, F0)] }
noncomputable def B.ref_Two.H0  : Heads := { heads := B.ref_Two.h, merge := true, sums := [] }
noncomputable def B.ref_Two.K0 (F0 : LSum) : Xt → St → Option Value := kAt P G (tab L_B.cong_Rem) (B.ref_Two.H F0) [1, 0, 1, 0] 60 (fbody Tryz.f230) (retK P G Tryz.f230)
def B.ref_Two.l0.c0 {γ : Type} (k0 : Int × Int × Int → Option γ) (k : Int → Option γ) (s3 : Int) (b0_0 : Int) (b0_1 : Int) (t1 : Bool) (t2 : Int) (t3 : Int) (t4 : Int) : Option γ := bif decide (s3 < 63)
  then bif t1
   then bif t2 == 1
    then bif !decide (s3 < 0)
     then k (t3)
     else none
    else k0 (t4, b0_0, b0_1)
   else none
  else k (9223372036854775808)
def B.ref_Two.l0.c {γ : Type} (k0 : Int × Int × Int → Option γ) (k : Int → Option γ) (s3 : Int) (b0_0 : Int) (b0_1 : Int) : Option γ := let t1 := B.ref_bitOf.ok b0_0 b0_1 s3; let t2 := B.ref_bitOf b0_0 b0_1 s3; let t3 := IntKind.u64.wrap (1 * 2 ^ min s3.toNat IntKind.u64.bits); let t4 := IntKind.i64.wrap (s3 + 1); B.ref_Two.l0.c0 k0 k s3 b0_0 b0_1 t1 t2 t3 t4
def B.ref_Two.c {γ : Type} (k0 : Int × Int × Int → Option γ) (k : Int → Option γ) (a0 : Int) (a1 : Int) : Option γ := k0 (0, a0, a1)
def B.ref_Two.L0 (N : Nat)  : Nat → Int × Int × Int → Option (Int)
  | 0, _ => none
  | m + 1, q => B.ref_Two.l0.c (B.ref_Two.L0 N m) some (q).1 (q).2.1 (q).2.2
def B.ref_Two.o (N : Nat) (a0 : Int) (a1 : Int) : Option (Int) := B.ref_Two.c (B.ref_Two.L0 N  N) some a0 a1
noncomputable def B.ref_Two.S0 (N : Nat) : LSum := sumN P G (tab L_B.cong_Rem) (B.ref_Two.H0 ) 60 B.ref_Two.B0 N
theorem B.ref_Two.l0.p0 {γ δ : Type} (f : γ → δ) (k0 : Int × Int × Int → Option γ) (k : Int → Option γ) (s3 : Int) (b0_0 : Int) (b0_1 : Int) (t1 : Bool) (t2 : Int) (t3 : Int) (t4 : Int) : B.ref_Two.l0.c0 (fun q => (k0 q).map f) (fun q => (k q).map f) s3 b0_0 b0_1 t1 t2 t3 t4 = (B.ref_Two.l0.c0 k0 k s3 b0_0 b0_1 t1 t2 t3 t4).map f := by
  unfold B.ref_Two.l0.c0; (repeat' (first | (apply pm f) | (exact rfl)))
theorem B.ref_Two.l0.p {γ δ : Type} (f : γ → δ) (k0 : Int × Int × Int → Option γ) (k : Int → Option γ) (s3 : Int) (b0_0 : Int) (b0_1 : Int) : B.ref_Two.l0.c (fun q => (k0 q).map f) (fun q => (k q).map f) s3 b0_0 b0_1 = (B.ref_Two.l0.c k0 k s3 b0_0 b0_1).map f :=
  let t1 := B.ref_bitOf.ok b0_0 b0_1 s3; let t2 := B.ref_bitOf b0_0 b0_1 s3; let t3 := IntKind.u64.wrap (1 * 2 ^ min s3.toNat IntKind.u64.bits); let t4 := IntKind.i64.wrap (s3 + 1); B.ref_Two.l0.p0 f k0 k s3 b0_0 b0_1 t1 t2 t3 t4
theorem B.ref_Two.p {γ δ : Type} (f : γ → δ) (k0 : Int × Int × Int → Option γ) (k : Int → Option γ) (a0 : Int) (a1 : Int) : B.ref_Two.c (fun q => (k0 q).map f) (fun q => (k q).map f) a0 a1 = (B.ref_Two.c k0 k a0 a1).map f := by
  unfold B.ref_Two.c; (repeat' (first | (apply pm f) | (exact rfl)))
theorem B.ref_Two.S0.ok (N : Nat) : LoopsOK P G (B.ref_Two.H0 ).sums B.ref_Two.B0 := by
  refine LoopsOK_code fun i hi F hF => ?_
  have hlen : (loopsOf B.ref_Two.B0).length = 0 := by kernel_rfl
  rw [hlen] at hi
  omega
theorem B.ref_Two.S0.snd (N : Nat) : SoundL P G B.ref_Two.B0 (B.ref_Two.S0 N) := sumN_sound C.mixed C.names B.cong_Rem.t (B.ref_Two.S0.ok N) N
theorem B.ref_Two.l0.r (F0 G0 : LSum) (s3 : Int) (b0_0 : Int) (b0_1 : Int) : ex P G (tab L_B.cong_Rem) (B.ref_Two.H0 ) 60 B.ref_Two.B0 (B.ref_Two.e0 (s3, b0_0, b0_1)) (roundK (B.ref_Two.H0 ) B.ref_Two.B0 G0 (B.ref_Two.K0 F0)) = B.ref_Two.l0.c (fun q => G0.run (B.ref_Two.e0 q) (B.ref_Two.K0 F0)) (fun q => some (B.ref_Two.val q)) s3 b0_0 b0_1 := by kernel_rfl
theorem B.ref_Two.r (F0 : LSum) (a0 : Int) (a1 : Int) : runF P G (tab L_B.cong_Rem) (B.ref_Two.H F0) 60 Tryz.f230 [.agg #[.int .u64 a0, .int .u64 a1]] = B.ref_Two.c (fun q => F0.run (B.ref_Two.e0 q) (B.ref_Two.K0 F0)) (fun q => some (B.ref_Two.val q)) a0 a1 := by kernel_rfl
theorem B.ref_Two.L0.ok (N : Nat) (F0 : LSum)   : ∀ m q, (sumN P G (tab L_B.cong_Rem) (B.ref_Two.H0 ) 60 B.ref_Two.B0 m).run (B.ref_Two.e0 q) (B.ref_Two.K0 F0) = (B.ref_Two.L0 N  m q).map B.ref_Two.val
  | 0, q => rfl
  | m + 1, q => by
    have ih := B.ref_Two.L0.ok N F0   m
    refine (sumN_run (n := m) rfl).trans ((B.ref_Two.l0.r F0 (sumN P G (tab L_B.cong_Rem) (B.ref_Two.H0 ) 60 B.ref_Two.B0 m) (q).1 (q).2.1 (q).2.2).trans ?_)
    refine Eq.trans ?_ (B.ref_Two.l0.p B.ref_Two.val (B.ref_Two.L0 N m) some (q).1 (q).2.1 (q).2.2)
    have e0 : (fun q => (sumN P G (tab L_B.cong_Rem) (B.ref_Two.H0 ) 60 B.ref_Two.B0 m).run (B.ref_Two.e0 q) (B.ref_Two.K0 F0)) = (fun q => ((B.ref_Two.L0 N m) q).map B.ref_Two.val) := funext ih
    rw [e0]; rfl
theorem B.ref_Two.q (N : Nat) (a0 : Int) (a1 : Int) : runF P G (tab L_B.cong_Rem) (B.ref_Two.H (B.ref_Two.S0 N)) 60 Tryz.f230 [.agg #[.int .u64 a0, .int .u64 a1]] = (B.ref_Two.o N a0 a1).map B.ref_Two.val := by
  have hk0 := B.ref_Two.L0.ok N (B.ref_Two.S0 N)   N
  refine (B.ref_Two.r (B.ref_Two.S0 N) a0 a1).trans ?_
  refine Eq.trans ?_ (B.ref_Two.p B.ref_Two.val (B.ref_Two.L0 N  N) some a0 a1)
  have e0 : (fun q => (B.ref_Two.S0 N).run (B.ref_Two.e0 q) (B.ref_Two.K0 (B.ref_Two.S0 N))) = (fun q => ((B.ref_Two.L0 N  N) q).map B.ref_Two.val) := funext hk0
  rw [e0]; rfl
theorem B.ref_Two.lok (N : Nat) : LoopsOK P G (B.ref_Two.H (B.ref_Two.S0 N)).sums (fbody Tryz.f230) := by
  refine LoopsOK_code fun i hi F hF => ?_
  have hlen : (loopsOf (fbody Tryz.f230)).length = 1 := by kernel_rfl
  rw [hlen] at hi
  match i, hi with
  | 0, _ => exact soundAt (B' := B.ref_Two.B0) (by kernel_rfl) (by kernel_rfl) (B.ref_Two.S0.snd N) hF
  | _ + 1, h => omega
def B.ref_Two (a0 : Int) (a1 : Int) : Int := hide ((B.ref_Two.o (66) a0 a1).getD (0))
def B.ref_Two.g (a0 : Int) (a1 : Int) : Bool := hide (B.ref_Two.o (66) a0 a1).isSome
theorem B.ref_Two.s (a0 : Int) (a1 : Int) (h : B.ref_Two.g a0 a1 = true) : B.ref_Two.o (66) a0 a1 = some (B.ref_Two a0 a1) := by
  unfold B.ref_Two.g at h; unfold B.ref_Two; simp only [hide_eq] at h ⊢; revert h; cases B.ref_Two.o (66) a0 a1 <;> simp
def B.ref_Two.F : FV := mkF (cP (cA (cP (cI .u64) (cP (cI .u64) cU))) cU) (fun | ((a0, (a1, ())), ()) => B.ref_Two.g a0 a1) (fun | ((a0, (a1, ())), ()) => B.ref_Two.val (B.ref_Two a0 a1))
def L_B.ref_Two : TL := (230, B.ref_Two.F) :: L_B.cong_Rem
theorem B.ref_Two.t : TabOK P G (tab L_B.ref_Two) :=
  TabOK_mkH C B.cong_Rem.t Tryz.func230 (by kernel_rfl) (fun | ((_, (_, ())), ()) => B.ref_Two.H (B.ref_Two.S0 (66))) (by rintro ⟨⟨a0, ⟨a1, ⟨⟩⟩⟩, ⟨⟩⟩; exact B.ref_Two.lok _) 60 (by
    rintro ⟨⟨a0, ⟨a1, ⟨⟩⟩⟩, ⟨⟩⟩ h
    exact (B.ref_Two.q (66) a0 a1).trans (congrArg (Option.map B.ref_Two.val) (B.ref_Two.s a0 a1 h)))
def B.ref_by.c0 {γ : Type} (n : γ) (k : Int × Int → γ) (a0 : Int) (a1 : Int) (a2 : Bool) (b0 : Int) (b1 : Int) (c : Bool) (t1 : Bool) (t2 : Int × Int) (t3 : Bool) (t4 : Int) (t5 : Bool) (t6 : Int × Int) : γ := bif c
  then bif b0 == 0
   then bif t1
    then k (t2.fst, t2.snd)
    else n
   else bif t3
    then bif t5
     then k (t6.fst, t6.snd)
     else n
    else n
  else bif t3
   then bif t5
    then k (t6.fst, t6.snd)
    else n
   else n
def B.ref_by.c {γ : Type} (n : γ) (k : Int × Int → γ) (a0 : Int) (a1 : Int) (a2 : Bool) (b0 : Int) (b1 : Int) (c : Bool) : γ := let t1 := B.ref_class.ok a0 a1 a2 b1; let t2 := B.ref_class a0 a1 a2 b1; let t3 := B.ref_Two.g b0 b1; let t4 := B.ref_Two b0 b1; let t5 := B.ref_class.ok a0 a1 a2 t4; let t6 := B.ref_class a0 a1 a2 t4; B.ref_by.c0 n k a0 a1 a2 b0 b1 c t1 t2 t3 t4 t5 t6
def B.ref_by.ok (a0 : Int) (a1 : Int) (a2 : Bool) (b0 : Int) (b1 : Int) (c : Bool) : Bool := B.ref_by.c false (fun _ => true) a0 a1 a2 b0 b1 c
def B.ref_by (a0 : Int) (a1 : Int) (a2 : Bool) (b0 : Int) (b1 : Int) (c : Bool) : Int × Int := B.ref_by.c (0, 0) id a0 a1 a2 b0 b1 c
def B.ref_by.F : FV := mkF (cP (cA (cP (cI .u64) (cP (cI .u64) (cP cB cU)))) (cP (cA (cP (cI .u64) (cP (cI .u64) cU))) (cP cB cU))) (fun | ((a0, (a1, (a2, ()))), ((b0, (b1, ())), (c, ()))) => B.ref_by.ok a0 a1 a2 b0 b1 c) (fun | ((a0, (a1, (a2, ()))), ((b0, (b1, ())), (c, ()))) => .agg #[.int .u64 (B.ref_by a0 a1 a2 b0 b1 c).1, .int .u64 (B.ref_by a0 a1 a2 b0 b1 c).2])
def L_B.ref_by : TL := (160, B.ref_by.F) :: L_B.ref_Two
theorem B.ref_by.p0 {γ : Type} (k : Int × Int → γ) (a0 : Int) (a1 : Int) (a2 : Bool) (b0 : Int) (b1 : Int) (c : Bool) (t1 : Bool) (t2 : Int × Int) (t3 : Bool) (t4 : Int) (t5 : Bool) (t6 : Int × Int) : B.ref_by.c0 false (fun _ => true) a0 a1 a2 b0 b1 c t1 t2 t3 t4 t5 t6 = true → B.ref_by.c0 none (fun q => some (k q)) a0 a1 a2 b0 b1 c t1 t2 t3 t4 t5 t6 = some (k (B.ref_by.c0 (0, 0) id a0 a1 a2 b0 b1 c t1 t2 t3 t4 t5 t6)) := by
  unfold B.ref_by.c0; (repeat' (first | (apply pn k) | (exact pn_none _ _) | (exact pn_leaf k _)))
theorem B.ref_by.p {γ : Type} (k : Int × Int → γ) (a0 : Int) (a1 : Int) (a2 : Bool) (b0 : Int) (b1 : Int) (c : Bool) (h : B.ref_by.ok a0 a1 a2 b0 b1 c = true) : B.ref_by.c none (fun q => some (k q)) a0 a1 a2 b0 b1 c = some (k (B.ref_by a0 a1 a2 b0 b1 c)) :=
  let t1 := B.ref_class.ok a0 a1 a2 b1; let t2 := B.ref_class a0 a1 a2 b1; let t3 := B.ref_Two.g b0 b1; let t4 := B.ref_Two b0 b1; let t5 := B.ref_class.ok a0 a1 a2 t4; let t6 := B.ref_class a0 a1 a2 t4; B.ref_by.p0 k a0 a1 a2 b0 b1 c t1 t2 t3 t4 t5 t6 h
theorem B.ref_by.r (a0 : Int) (a1 : Int) (a2 : Bool) (b0 : Int) (b1 : Int) (c : Bool) : runF P G (tab L_B.ref_Two) { merge := true } 60 Tryz.f160 [.agg #[.int .u64 a0, .int .u64 a1, .bool a2], .agg #[.int .u64 b0, .int .u64 b1], .bool c] = B.ref_by.c none (fun q => some (.agg #[.int .u64 (q).1, .int .u64 (q).2] : Value)) a0 a1 a2 b0 b1 c := by kernel_rfl
theorem B.ref_by.t : TabOK P G (tab L_B.ref_by) :=
  TabOK_mk C B.ref_Two.t Tryz.func160 (by kernel_rfl) true 60 (by
    rintro ⟨⟨a0, ⟨a1, ⟨a2, ⟨⟩⟩⟩⟩, ⟨⟨b0, ⟨b1, ⟨⟩⟩⟩, ⟨c, ⟨⟩⟩⟩⟩ h
    exact (B.ref_by.r a0 a1 a2 b0 b1 c).trans (B.ref_by.p (fun q => (.agg #[.int .u64 (q).1, .int .u64 (q).2] : Value)) a0 a1 a2 b0 b1 c h))
def B.ref_Neg.c0 {γ : Type} (n : γ) (k : Int × Int → γ) (a0 : Int) (a1 : Int) (b : Bool) (t1 : Int) (t2 : Int) (t3 : Int × Int) (t4 : Bool) (t5 : Int × Int × Bool) (t6 : Int × Int) (t7 : Bool) (t8 : Int × Int) : γ := bif a0 == 0
  then k (t3.fst, t3.snd)
  else bif t4
   then bif t7
    then k (t8.fst, t8.snd)
    else n
   else n
def B.ref_Neg.c {γ : Type} (n : γ) (k : Int × Int → γ) (a0 : Int) (a1 : Int) (b : Bool) : γ := let t1 := B.ref_number a0 a1; let t2 := IntKind.i64.wrap (0 - t1); let t3 := B.ref_Const t2; let t4 := B.ref_r.ok a0 a1; let t5 := B.ref_r a0 a1; let t6 := B.ref_of a0; let t7 := B.ref_by.ok t5.fst t5.snd.fst true t6.fst t6.snd b; let t8 := B.ref_by t5.fst t5.snd.fst true t6.fst t6.snd b; B.ref_Neg.c0 n k a0 a1 b t1 t2 t3 t4 t5 t6 t7 t8
def B.ref_Neg.ok (a0 : Int) (a1 : Int) (b : Bool) : Bool := B.ref_Neg.c false (fun _ => true) a0 a1 b
def B.ref_Neg (a0 : Int) (a1 : Int) (b : Bool) : Int × Int := B.ref_Neg.c (0, 0) id a0 a1 b
def B.ref_Neg.F : FV := mkF (cP (cA (cP (cI .u64) (cP (cI .u64) cU))) (cP cB cU)) (fun | ((a0, (a1, ())), (b, ())) => B.ref_Neg.ok a0 a1 b) (fun | ((a0, (a1, ())), (b, ())) => .agg #[.int .u64 (B.ref_Neg a0 a1 b).1, .int .u64 (B.ref_Neg a0 a1 b).2])
def L_B.ref_Neg : TL := (82, B.ref_Neg.F) :: L_B.ref_by
theorem B.ref_Neg.p0 {γ : Type} (k : Int × Int → γ) (a0 : Int) (a1 : Int) (b : Bool) (t1 : Int) (t2 : Int) (t3 : Int × Int) (t4 : Bool) (t5 : Int × Int × Bool) (t6 : Int × Int) (t7 : Bool) (t8 : Int × Int) : B.ref_Neg.c0 false (fun _ => true) a0 a1 b t1 t2 t3 t4 t5 t6 t7 t8 = true → B.ref_Neg.c0 none (fun q => some (k q)) a0 a1 b t1 t2 t3 t4 t5 t6 t7 t8 = some (k (B.ref_Neg.c0 (0, 0) id a0 a1 b t1 t2 t3 t4 t5 t6 t7 t8)) := by
  unfold B.ref_Neg.c0; (repeat' (first | (apply pn k) | (exact pn_none _ _) | (exact pn_leaf k _)))
theorem B.ref_Neg.p {γ : Type} (k : Int × Int → γ) (a0 : Int) (a1 : Int) (b : Bool) (h : B.ref_Neg.ok a0 a1 b = true) : B.ref_Neg.c none (fun q => some (k q)) a0 a1 b = some (k (B.ref_Neg a0 a1 b)) :=
  let t1 := B.ref_number a0 a1; let t2 := IntKind.i64.wrap (0 - t1); let t3 := B.ref_Const t2; let t4 := B.ref_r.ok a0 a1; let t5 := B.ref_r a0 a1; let t6 := B.ref_of a0; let t7 := B.ref_by.ok t5.fst t5.snd.fst true t6.fst t6.snd b; let t8 := B.ref_by t5.fst t5.snd.fst true t6.fst t6.snd b; B.ref_Neg.p0 k a0 a1 b t1 t2 t3 t4 t5 t6 t7 t8 h
theorem B.ref_Neg.r (a0 : Int) (a1 : Int) (b : Bool) : runF P G (tab L_B.ref_by) { merge := true } 60 Tryz.f82 [.agg #[.int .u64 a0, .int .u64 a1], .bool b] = B.ref_Neg.c none (fun q => some (.agg #[.int .u64 (q).1, .int .u64 (q).2] : Value)) a0 a1 b := by kernel_rfl
theorem B.ref_Neg.t : TabOK P G (tab L_B.ref_Neg) :=
  TabOK_mk C B.ref_by.t Tryz.func82 (by kernel_rfl) true 60 (by
    rintro ⟨⟨a0, ⟨a1, ⟨⟩⟩⟩, ⟨b, ⟨⟩⟩⟩ h
    exact (B.ref_Neg.r a0 a1 b).trans (B.ref_Neg.p (fun q => (.agg #[.int .u64 (q).1, .int .u64 (q).2] : Value)) a0 a1 b h))
def B.ref_sum.c0 {γ : Type} (k : Int × Int × Bool → γ) (a0 : Int) (a1 : Int) (a2 : Bool) (b0 : Int) (b1 : Int) (b2 : Bool) (t1 : Bool) (t2 : Int × Int) (t3 : Int × Int) (t4 : Int × Int) (t5 : Int × Int) : γ := bif !a2 == b2
  then bif t1
   then k (t2.fst, t2.snd, !a2)
   else k (t3.fst, t3.snd, a2)
  else k (t5.fst, t5.snd, a2)
def B.ref_sum.c {γ : Type} (k : Int × Int × Bool → γ) (a0 : Int) (a1 : Int) (a2 : Bool) (b0 : Int) (b1 : Int) (b2 : Bool) : γ := let t1 := B.ref_less a0 a1 b0 b1; let t2 := B.ref_minus b0 b1 a0 a1; let t3 := B.ref_minus a0 a1 b0 b1; let t4 := B.ref_minus 0 0 b0 b1; let t5 := B.ref_minus a0 a1 t4.fst t4.snd; B.ref_sum.c0 k a0 a1 a2 b0 b1 b2 t1 t2 t3 t4 t5
def B.ref_sum (a0 : Int) (a1 : Int) (a2 : Bool) (b0 : Int) (b1 : Int) (b2 : Bool) : Int × Int × Bool := B.ref_sum.c id a0 a1 a2 b0 b1 b2
def B.ref_sum.F : FV := mkF (cP (cA (cP (cI .u64) (cP (cI .u64) (cP cB cU)))) (cP (cA (cP (cI .u64) (cP (cI .u64) (cP cB cU)))) cU)) (fun _ => true) (fun | ((a0, (a1, (a2, ()))), ((b0, (b1, (b2, ()))), ())) => .agg #[.int .u64 (B.ref_sum a0 a1 a2 b0 b1 b2).1, .int .u64 (B.ref_sum a0 a1 a2 b0 b1 b2).2.1, .bool (B.ref_sum a0 a1 a2 b0 b1 b2).2.2])
def L_B.ref_sum : TL := (162, B.ref_sum.F) :: L_B.ref_Neg
theorem B.ref_sum.p0 {γ : Type} (k : Int × Int × Bool → γ) (a0 : Int) (a1 : Int) (a2 : Bool) (b0 : Int) (b1 : Int) (b2 : Bool) (t1 : Bool) (t2 : Int × Int) (t3 : Int × Int) (t4 : Int × Int) (t5 : Int × Int) : B.ref_sum.c0 k a0 a1 a2 b0 b1 b2 t1 t2 t3 t4 t5 = k (B.ref_sum.c0 id a0 a1 a2 b0 b1 b2 t1 t2 t3 t4 t5) := by
  unfold B.ref_sum.c0; (repeat' (first | (apply pc k) | (exact rfl)))
theorem B.ref_sum.p {γ : Type} (k : Int × Int × Bool → γ) (a0 : Int) (a1 : Int) (a2 : Bool) (b0 : Int) (b1 : Int) (b2 : Bool) : B.ref_sum.c k a0 a1 a2 b0 b1 b2 = k (B.ref_sum a0 a1 a2 b0 b1 b2) :=
  let t1 := B.ref_less a0 a1 b0 b1; let t2 := B.ref_minus b0 b1 a0 a1; let t3 := B.ref_minus a0 a1 b0 b1; let t4 := B.ref_minus 0 0 b0 b1; let t5 := B.ref_minus a0 a1 t4.fst t4.snd; B.ref_sum.p0 k a0 a1 a2 b0 b1 b2 t1 t2 t3 t4 t5
theorem B.ref_sum.r (a0 : Int) (a1 : Int) (a2 : Bool) (b0 : Int) (b1 : Int) (b2 : Bool) : runF P G (tab L_B.ref_Neg) { merge := true } 60 Tryz.f162 [.agg #[.int .u64 a0, .int .u64 a1, .bool a2], .agg #[.int .u64 b0, .int .u64 b1, .bool b2]] = B.ref_sum.c (fun q => some (.agg #[.int .u64 (q).1, .int .u64 (q).2.1, .bool (q).2.2] : Value)) a0 a1 a2 b0 b1 b2 := by kernel_rfl
theorem B.ref_sum.t : TabOK P G (tab L_B.ref_sum) :=
  TabOK_mk C B.ref_Neg.t Tryz.func162 (by kernel_rfl) true 60 (by
    rintro ⟨⟨a0, ⟨a1, ⟨a2, ⟨⟩⟩⟩⟩, ⟨⟨b0, ⟨b1, ⟨b2, ⟨⟩⟩⟩⟩, ⟨⟩⟩⟩ h
    exact (B.ref_sum.r a0 a1 a2 b0 b1 b2).trans (B.ref_sum.p (fun q => some (.agg #[.int .u64 (q).1, .int .u64 (q).2.1, .bool (q).2.2] : Value)) a0 a1 a2 b0 b1 b2))
def B.ref_Add.c0 {γ : Type} (n : γ) (k : Int × Int → γ) (a0 : Int) (a1 : Int) (b0 : Int) (b1 : Int) (c : Bool) (t1 : Int) (t2 : Int) (t3 : Int) (t4 : Int × Int) (t5 : Bool) (t6 : Bool) (t7 : Int × Int) (t8 : Int × Int) (t9 : Bool) (t10 : Int × Int × Bool) (t11 : Int × Int × Bool) (t12 : Int × Int × Bool) (t13 : Int × Int) (t14 : Bool) (t15 : Int × Int) : γ := bif a0 == 0
  then bif b0 == 0
   then k (t4.fst, t4.snd)
   else bif t5
    then bif t6
     then bif t9
      then bif t14
       then k (t15.fst, t15.snd)
       else n
      else n
     else n
    else n
  else bif t5
   then bif t6
    then bif t9
     then bif t14
      then k (t15.fst, t15.snd)
      else n
     else n
    else n
   else n
def B.ref_Add.c {γ : Type} (n : γ) (k : Int × Int → γ) (a0 : Int) (a1 : Int) (b0 : Int) (b1 : Int) (c : Bool) : γ := let t1 := B.ref_number a0 a1; let t2 := B.ref_number b0 b1; let t3 := IntKind.i64.wrap (t1 + t2); let t4 := B.ref_Const t3; let t5 := B.ref_r.ok a0 a1; let t6 := B.ref_r.ok b0 b1; let t7 := B.ref_of a0; let t8 := B.ref_of b0; let t9 := B.ref_gcd.g t7.fst t7.snd t8.fst t8.snd; let t10 := B.ref_r a0 a1; let t11 := B.ref_r b0 b1; let t12 := B.ref_sum t10.fst t10.snd.fst t10.snd.snd t11.fst t11.snd.fst t11.snd.snd; let t13 := B.ref_gcd t7.fst t7.snd t8.fst t8.snd; let t14 := B.ref_by.ok t12.fst t12.snd.fst t12.snd.snd t13.fst t13.snd c; let t15 := B.ref_by t12.fst t12.snd.fst t12.snd.snd t13.fst t13.snd c; B.ref_Add.c0 n k a0 a1 b0 b1 c t1 t2 t3 t4 t5 t6 t7 t8 t9 t10 t11 t12 t13 t14 t15
def B.ref_Add.ok (a0 : Int) (a1 : Int) (b0 : Int) (b1 : Int) (c : Bool) : Bool := B.ref_Add.c false (fun _ => true) a0 a1 b0 b1 c
def B.ref_Add (a0 : Int) (a1 : Int) (b0 : Int) (b1 : Int) (c : Bool) : Int × Int := B.ref_Add.c (0, 0) id a0 a1 b0 b1 c
def B.ref_Add.F : FV := mkF (cP (cA (cP (cI .u64) (cP (cI .u64) cU))) (cP (cA (cP (cI .u64) (cP (cI .u64) cU))) (cP cB cU))) (fun | ((a0, (a1, ())), ((b0, (b1, ())), (c, ()))) => B.ref_Add.ok a0 a1 b0 b1 c) (fun | ((a0, (a1, ())), ((b0, (b1, ())), (c, ()))) => .agg #[.int .u64 (B.ref_Add a0 a1 b0 b1 c).1, .int .u64 (B.ref_Add a0 a1 b0 b1 c).2])
def L_B.ref_Add : TL := (84, B.ref_Add.F) :: L_B.ref_sum
theorem B.ref_Add.p0 {γ : Type} (k : Int × Int → γ) (a0 : Int) (a1 : Int) (b0 : Int) (b1 : Int) (c : Bool) (t1 : Int) (t2 : Int) (t3 : Int) (t4 : Int × Int) (t5 : Bool) (t6 : Bool) (t7 : Int × Int) (t8 : Int × Int) (t9 : Bool) (t10 : Int × Int × Bool) (t11 : Int × Int × Bool) (t12 : Int × Int × Bool) (t13 : Int × Int) (t14 : Bool) (t15 : Int × Int) : B.ref_Add.c0 false (fun _ => true) a0 a1 b0 b1 c t1 t2 t3 t4 t5 t6 t7 t8 t9 t10 t11 t12 t13 t14 t15 = true → B.ref_Add.c0 none (fun q => some (k q)) a0 a1 b0 b1 c t1 t2 t3 t4 t5 t6 t7 t8 t9 t10 t11 t12 t13 t14 t15 = some (k (B.ref_Add.c0 (0, 0) id a0 a1 b0 b1 c t1 t2 t3 t4 t5 t6 t7 t8 t9 t10 t11 t12 t13 t14 t15)) := by
  unfold B.ref_Add.c0; (repeat' (first | (apply pn k) | (exact pn_none _ _) | (exact pn_leaf k _)))
theorem B.ref_Add.p {γ : Type} (k : Int × Int → γ) (a0 : Int) (a1 : Int) (b0 : Int) (b1 : Int) (c : Bool) (h : B.ref_Add.ok a0 a1 b0 b1 c = true) : B.ref_Add.c none (fun q => some (k q)) a0 a1 b0 b1 c = some (k (B.ref_Add a0 a1 b0 b1 c)) :=
  let t1 := B.ref_number a0 a1; let t2 := B.ref_number b0 b1; let t3 := IntKind.i64.wrap (t1 + t2); let t4 := B.ref_Const t3; let t5 := B.ref_r.ok a0 a1; let t6 := B.ref_r.ok b0 b1; let t7 := B.ref_of a0; let t8 := B.ref_of b0; let t9 := B.ref_gcd.g t7.fst t7.snd t8.fst t8.snd; let t10 := B.ref_r a0 a1; let t11 := B.ref_r b0 b1; let t12 := B.ref_sum t10.fst t10.snd.fst t10.snd.snd t11.fst t11.snd.fst t11.snd.snd; let t13 := B.ref_gcd t7.fst t7.snd t8.fst t8.snd; let t14 := B.ref_by.ok t12.fst t12.snd.fst t12.snd.snd t13.fst t13.snd c; let t15 := B.ref_by t12.fst t12.snd.fst t12.snd.snd t13.fst t13.snd c; B.ref_Add.p0 k a0 a1 b0 b1 c t1 t2 t3 t4 t5 t6 t7 t8 t9 t10 t11 t12 t13 t14 t15 h
theorem B.ref_Add.r (a0 : Int) (a1 : Int) (b0 : Int) (b1 : Int) (c : Bool) : runF P G (tab L_B.ref_sum) { merge := true } 60 Tryz.f84 [.agg #[.int .u64 a0, .int .u64 a1], .agg #[.int .u64 b0, .int .u64 b1], .bool c] = B.ref_Add.c none (fun q => some (.agg #[.int .u64 (q).1, .int .u64 (q).2] : Value)) a0 a1 b0 b1 c := by kernel_rfl
theorem B.ref_Add.t : TabOK P G (tab L_B.ref_Add) :=
  TabOK_mk C B.ref_sum.t Tryz.func84 (by kernel_rfl) true 60 (by
    rintro ⟨⟨a0, ⟨a1, ⟨⟩⟩⟩, ⟨⟨b0, ⟨b1, ⟨⟩⟩⟩, ⟨c, ⟨⟩⟩⟩⟩ h
    exact (B.ref_Add.r a0 a1 b0 b1 c).trans (B.ref_Add.p (fun q => (.agg #[.int .u64 (q).1, .int .u64 (q).2] : Value)) a0 a1 b0 b1 c h))
def B.ref_Sub.c0 {γ : Type} (n : γ) (k : Int × Int → γ) (a0 : Int) (a1 : Int) (b0 : Int) (b1 : Int) (c : Bool) (t1 : Int) (t2 : Int) (t3 : Int) (t4 : Int × Int) (t5 : Bool) (t6 : Bool) (t7 : Int × Int) (t8 : Int × Int) (t9 : Bool) (t10 : Int × Int × Bool) (t11 : Int × Int × Bool) (t12 : Int × Int × Bool) (t13 : Int × Int) (t14 : Bool) (t15 : Int × Int) : γ := bif a0 == 0
  then bif b0 == 0
   then k (t4.fst, t4.snd)
   else bif t5
    then bif t6
     then bif t9
      then bif t14
       then k (t15.fst, t15.snd)
       else n
      else n
     else n
    else n
  else bif t5
   then bif t6
    then bif t9
     then bif t14
      then k (t15.fst, t15.snd)
      else n
     else n
    else n
   else n
def B.ref_Sub.c {γ : Type} (n : γ) (k : Int × Int → γ) (a0 : Int) (a1 : Int) (b0 : Int) (b1 : Int) (c : Bool) : γ := let t1 := B.ref_number a0 a1; let t2 := B.ref_number b0 b1; let t3 := IntKind.i64.wrap (t1 - t2); let t4 := B.ref_Const t3; let t5 := B.ref_r.ok b0 b1; let t6 := B.ref_r.ok a0 a1; let t7 := B.ref_of a0; let t8 := B.ref_of b0; let t9 := B.ref_gcd.g t7.fst t7.snd t8.fst t8.snd; let t10 := B.ref_r a0 a1; let t11 := B.ref_r b0 b1; let t12 := B.ref_sum t10.fst t10.snd.fst t10.snd.snd t11.fst t11.snd.fst !t11.snd.snd; let t13 := B.ref_gcd t7.fst t7.snd t8.fst t8.snd; let t14 := B.ref_by.ok t12.fst t12.snd.fst t12.snd.snd t13.fst t13.snd c; let t15 := B.ref_by t12.fst t12.snd.fst t12.snd.snd t13.fst t13.snd c; B.ref_Sub.c0 n k a0 a1 b0 b1 c t1 t2 t3 t4 t5 t6 t7 t8 t9 t10 t11 t12 t13 t14 t15
def B.ref_Sub.ok (a0 : Int) (a1 : Int) (b0 : Int) (b1 : Int) (c : Bool) : Bool := B.ref_Sub.c false (fun _ => true) a0 a1 b0 b1 c
def B.ref_Sub (a0 : Int) (a1 : Int) (b0 : Int) (b1 : Int) (c : Bool) : Int × Int := B.ref_Sub.c (0, 0) id a0 a1 b0 b1 c
def B.ref_Sub.F : FV := mkF (cP (cA (cP (cI .u64) (cP (cI .u64) cU))) (cP (cA (cP (cI .u64) (cP (cI .u64) cU))) (cP cB cU))) (fun | ((a0, (a1, ())), ((b0, (b1, ())), (c, ()))) => B.ref_Sub.ok a0 a1 b0 b1 c) (fun | ((a0, (a1, ())), ((b0, (b1, ())), (c, ()))) => .agg #[.int .u64 (B.ref_Sub a0 a1 b0 b1 c).1, .int .u64 (B.ref_Sub a0 a1 b0 b1 c).2])
def L_B.ref_Sub : TL := (86, B.ref_Sub.F) :: L_B.ref_Add
theorem B.ref_Sub.p0 {γ : Type} (k : Int × Int → γ) (a0 : Int) (a1 : Int) (b0 : Int) (b1 : Int) (c : Bool) (t1 : Int) (t2 : Int) (t3 : Int) (t4 : Int × Int) (t5 : Bool) (t6 : Bool) (t7 : Int × Int) (t8 : Int × Int) (t9 : Bool) (t10 : Int × Int × Bool) (t11 : Int × Int × Bool) (t12 : Int × Int × Bool) (t13 : Int × Int) (t14 : Bool) (t15 : Int × Int) : B.ref_Sub.c0 false (fun _ => true) a0 a1 b0 b1 c t1 t2 t3 t4 t5 t6 t7 t8 t9 t10 t11 t12 t13 t14 t15 = true → B.ref_Sub.c0 none (fun q => some (k q)) a0 a1 b0 b1 c t1 t2 t3 t4 t5 t6 t7 t8 t9 t10 t11 t12 t13 t14 t15 = some (k (B.ref_Sub.c0 (0, 0) id a0 a1 b0 b1 c t1 t2 t3 t4 t5 t6 t7 t8 t9 t10 t11 t12 t13 t14 t15)) := by
  unfold B.ref_Sub.c0; (repeat' (first | (apply pn k) | (exact pn_none _ _) | (exact pn_leaf k _)))
theorem B.ref_Sub.p {γ : Type} (k : Int × Int → γ) (a0 : Int) (a1 : Int) (b0 : Int) (b1 : Int) (c : Bool) (h : B.ref_Sub.ok a0 a1 b0 b1 c = true) : B.ref_Sub.c none (fun q => some (k q)) a0 a1 b0 b1 c = some (k (B.ref_Sub a0 a1 b0 b1 c)) :=
  let t1 := B.ref_number a0 a1; let t2 := B.ref_number b0 b1; let t3 := IntKind.i64.wrap (t1 - t2); let t4 := B.ref_Const t3; let t5 := B.ref_r.ok b0 b1; let t6 := B.ref_r.ok a0 a1; let t7 := B.ref_of a0; let t8 := B.ref_of b0; let t9 := B.ref_gcd.g t7.fst t7.snd t8.fst t8.snd; let t10 := B.ref_r a0 a1; let t11 := B.ref_r b0 b1; let t12 := B.ref_sum t10.fst t10.snd.fst t10.snd.snd t11.fst t11.snd.fst !t11.snd.snd; let t13 := B.ref_gcd t7.fst t7.snd t8.fst t8.snd; let t14 := B.ref_by.ok t12.fst t12.snd.fst t12.snd.snd t13.fst t13.snd c; let t15 := B.ref_by t12.fst t12.snd.fst t12.snd.snd t13.fst t13.snd c; B.ref_Sub.p0 k a0 a1 b0 b1 c t1 t2 t3 t4 t5 t6 t7 t8 t9 t10 t11 t12 t13 t14 t15 h
theorem B.ref_Sub.r (a0 : Int) (a1 : Int) (b0 : Int) (b1 : Int) (c : Bool) : runF P G (tab L_B.ref_Add) { merge := true } 60 Tryz.f86 [.agg #[.int .u64 a0, .int .u64 a1], .agg #[.int .u64 b0, .int .u64 b1], .bool c] = B.ref_Sub.c none (fun q => some (.agg #[.int .u64 (q).1, .int .u64 (q).2] : Value)) a0 a1 b0 b1 c := by kernel_rfl
theorem B.ref_Sub.t : TabOK P G (tab L_B.ref_Sub) :=
  TabOK_mk C B.ref_Add.t Tryz.func86 (by kernel_rfl) true 60 (by
    rintro ⟨⟨a0, ⟨a1, ⟨⟩⟩⟩, ⟨⟨b0, ⟨b1, ⟨⟩⟩⟩, ⟨c, ⟨⟩⟩⟩⟩ h
    exact (B.ref_Sub.r a0 a1 b0 b1 c).trans (B.ref_Sub.p (fun q => (.agg #[.int .u64 (q).1, .int .u64 (q).2] : Value)) a0 a1 b0 b1 c h))
def B.ref_Mul.c0 {γ : Type} (n : γ) (k : Int × Int → γ) (a0 : Int) (a1 : Int) (b0 : Int) (b1 : Int) (c : Bool) (t1 : Int) (t2 : Int) (t3 : Int) (t4 : Int × Int) (t5 : Bool) (t6 : Bool) (t7 : Bool) (t8 : Int × Int × Bool) (t9 : Bool) (t10 : Int × Int × Bool) (t11 : Bool) (t12 : Int × Int) (t13 : Int × Int) (t14 : Bool) (t15 : Int × Int) (t16 : Int × Int) (t17 : Bool) (t18 : Bool) (t19 : Int × Int) (t20 : Int × Int) (t21 : Bool) (t22 : Int × Int) : γ := bif a0 == 0
  then bif b0 == 0
   then k (t4.fst, t4.snd)
   else bif a0 == 0 && (a1 == 0 && true)
    then k (0, 0)
    else bif b0 == 0 && (b1 == 0 && true)
     then k (0, 0)
     else bif t5
      then bif t6
       then bif t7
        then bif t9
         then bif t11
          then bif t14
           then bif t17
            then bif t18
             then bif t21
              then k (t22.fst, t22.snd)
              else n
             else n
            else n
           else n
          else n
         else n
        else n
       else n
      else n
  else bif a0 == 0 && (a1 == 0 && true)
   then k (0, 0)
   else bif b0 == 0 && (b1 == 0 && true)
    then k (0, 0)
    else bif t5
     then bif t6
      then bif t7
       then bif t9
        then bif t11
         then bif t14
          then bif t17
           then bif t18
            then bif t21
             then k (t22.fst, t22.snd)
             else n
            else n
           else n
          else n
         else n
        else n
       else n
      else n
     else n
def B.ref_Mul.c {γ : Type} (n : γ) (k : Int × Int → γ) (a0 : Int) (a1 : Int) (b0 : Int) (b1 : Int) (c : Bool) : γ := let t1 := B.ref_number a0 a1; let t2 := B.ref_number b0 b1; let t3 := IntKind.i64.wrap (t1 * t2); let t4 := B.ref_Const t3; let t5 := B.ref_r.ok a0 a1; let t6 := B.ref_r.ok b0 b1; let t7 := B.ref_times.g a0 b0; let t8 := B.ref_r a0 a1; let t9 := B.ref_times.g t8.snd.fst b0; let t10 := B.ref_r b0 b1; let t11 := B.ref_times.g t10.snd.fst a0; let t12 := B.ref_times t8.snd.fst b0; let t13 := B.ref_times t10.snd.fst a0; let t14 := B.ref_gcd.g t12.fst t12.snd t13.fst t13.snd; let t15 := B.ref_times a0 b0; let t16 := B.ref_gcd t12.fst t12.snd t13.fst t13.snd; let t17 := B.ref_gcd.g t15.fst t15.snd t16.fst t16.snd; let t18 := B.ref_times.g t8.snd.fst t10.snd.fst; let t19 := B.ref_times t8.snd.fst t10.snd.fst; let t20 := B.ref_gcd t15.fst t15.snd t16.fst t16.snd; let t21 := B.ref_by.ok t19.fst t19.snd (!t8.snd.snd == t10.snd.snd) t20.fst t20.snd c; let t22 := B.ref_by t19.fst t19.snd (!t8.snd.snd == t10.snd.snd) t20.fst t20.snd c; B.ref_Mul.c0 n k a0 a1 b0 b1 c t1 t2 t3 t4 t5 t6 t7 t8 t9 t10 t11 t12 t13 t14 t15 t16 t17 t18 t19 t20 t21 t22
def B.ref_Mul.ok (a0 : Int) (a1 : Int) (b0 : Int) (b1 : Int) (c : Bool) : Bool := B.ref_Mul.c false (fun _ => true) a0 a1 b0 b1 c
def B.ref_Mul (a0 : Int) (a1 : Int) (b0 : Int) (b1 : Int) (c : Bool) : Int × Int := B.ref_Mul.c (0, 0) id a0 a1 b0 b1 c
def B.ref_Mul.F : FV := mkF (cP (cA (cP (cI .u64) (cP (cI .u64) cU))) (cP (cA (cP (cI .u64) (cP (cI .u64) cU))) (cP cB cU))) (fun | ((a0, (a1, ())), ((b0, (b1, ())), (c, ()))) => B.ref_Mul.ok a0 a1 b0 b1 c) (fun | ((a0, (a1, ())), ((b0, (b1, ())), (c, ()))) => .agg #[.int .u64 (B.ref_Mul a0 a1 b0 b1 c).1, .int .u64 (B.ref_Mul a0 a1 b0 b1 c).2])
def L_B.ref_Mul : TL := (88, B.ref_Mul.F) :: L_B.ref_Sub
theorem B.ref_Mul.p0 {γ : Type} (k : Int × Int → γ) (a0 : Int) (a1 : Int) (b0 : Int) (b1 : Int) (c : Bool) (t1 : Int) (t2 : Int) (t3 : Int) (t4 : Int × Int) (t5 : Bool) (t6 : Bool) (t7 : Bool) (t8 : Int × Int × Bool) (t9 : Bool) (t10 : Int × Int × Bool) (t11 : Bool) (t12 : Int × Int) (t13 : Int × Int) (t14 : Bool) (t15 : Int × Int) (t16 : Int × Int) (t17 : Bool) (t18 : Bool) (t19 : Int × Int) (t20 : Int × Int) (t21 : Bool) (t22 : Int × Int) : B.ref_Mul.c0 false (fun _ => true) a0 a1 b0 b1 c t1 t2 t3 t4 t5 t6 t7 t8 t9 t10 t11 t12 t13 t14 t15 t16 t17 t18 t19 t20 t21 t22 = true → B.ref_Mul.c0 none (fun q => some (k q)) a0 a1 b0 b1 c t1 t2 t3 t4 t5 t6 t7 t8 t9 t10 t11 t12 t13 t14 t15 t16 t17 t18 t19 t20 t21 t22 = some (k (B.ref_Mul.c0 (0, 0) id a0 a1 b0 b1 c t1 t2 t3 t4 t5 t6 t7 t8 t9 t10 t11 t12 t13 t14 t15 t16 t17 t18 t19 t20 t21 t22)) := by
  unfold B.ref_Mul.c0; (repeat' (first | (apply pn k) | (exact pn_none _ _) | (exact pn_leaf k _)))
theorem B.ref_Mul.p {γ : Type} (k : Int × Int → γ) (a0 : Int) (a1 : Int) (b0 : Int) (b1 : Int) (c : Bool) (h : B.ref_Mul.ok a0 a1 b0 b1 c = true) : B.ref_Mul.c none (fun q => some (k q)) a0 a1 b0 b1 c = some (k (B.ref_Mul a0 a1 b0 b1 c)) :=
  let t1 := B.ref_number a0 a1; let t2 := B.ref_number b0 b1; let t3 := IntKind.i64.wrap (t1 * t2); let t4 := B.ref_Const t3; let t5 := B.ref_r.ok a0 a1; let t6 := B.ref_r.ok b0 b1; let t7 := B.ref_times.g a0 b0; let t8 := B.ref_r a0 a1; let t9 := B.ref_times.g t8.snd.fst b0; let t10 := B.ref_r b0 b1; let t11 := B.ref_times.g t10.snd.fst a0; let t12 := B.ref_times t8.snd.fst b0; let t13 := B.ref_times t10.snd.fst a0; let t14 := B.ref_gcd.g t12.fst t12.snd t13.fst t13.snd; let t15 := B.ref_times a0 b0; let t16 := B.ref_gcd t12.fst t12.snd t13.fst t13.snd; let t17 := B.ref_gcd.g t15.fst t15.snd t16.fst t16.snd; let t18 := B.ref_times.g t8.snd.fst t10.snd.fst; let t19 := B.ref_times t8.snd.fst t10.snd.fst; let t20 := B.ref_gcd t15.fst t15.snd t16.fst t16.snd; let t21 := B.ref_by.ok t19.fst t19.snd (!t8.snd.snd == t10.snd.snd) t20.fst t20.snd c; let t22 := B.ref_by t19.fst t19.snd (!t8.snd.snd == t10.snd.snd) t20.fst t20.snd c; B.ref_Mul.p0 k a0 a1 b0 b1 c t1 t2 t3 t4 t5 t6 t7 t8 t9 t10 t11 t12 t13 t14 t15 t16 t17 t18 t19 t20 t21 t22 h
theorem B.ref_Mul.r (a0 : Int) (a1 : Int) (b0 : Int) (b1 : Int) (c : Bool) : runF P G (tab L_B.ref_Sub) { merge := true } 60 Tryz.f88 [.agg #[.int .u64 a0, .int .u64 a1], .agg #[.int .u64 b0, .int .u64 b1], .bool c] = B.ref_Mul.c none (fun q => some (.agg #[.int .u64 (q).1, .int .u64 (q).2] : Value)) a0 a1 b0 b1 c := by kernel_rfl
theorem B.ref_Mul.t : TabOK P G (tab L_B.ref_Mul) :=
  TabOK_mk C B.ref_Sub.t Tryz.func88 (by kernel_rfl) true 60 (by
    rintro ⟨⟨a0, ⟨a1, ⟨⟩⟩⟩, ⟨⟨b0, ⟨b1, ⟨⟩⟩⟩, ⟨c, ⟨⟩⟩⟩⟩ h
    exact (B.ref_Mul.r a0 a1 b0 b1 c).trans (B.ref_Mul.p (fun q => (.agg #[.int .u64 (q).1, .int .u64 (q).2] : Value)) a0 a1 b0 b1 c h))
def B.ref_Div.c0 {γ : Type} (n : γ) (k : Int × Int → γ) (a0 : Int) (a1 : Int) (b0 : Int) (b1 : Int) (t1 : Int) (t2 : Int) (t3 : Int) (t4 : Int × Int) (t5 : Int) (t6 : Int × Int) (t7 : Int) (t8 : Int × Int) (t9 : Int) (t10 : Int × Int) (t11 : Int) (t12 : Bool) (t13 : Int × Int) : γ := bif decide (b0 > 0)
  then k (1, 0)
  else bif t1 == 0
   then k (1, 0)
   else bif a0 == 0
    then bif t1 == -1
     then k (t4.fst, t4.snd)
     else bif !decide (t1 = 0)
      then k (t6.fst, t6.snd)
      else n
    else bif t1 == -1
     then k (1, 0)
     else bif !decide (t7 = 0)
      then bif t8.fst.tmod t7 != 0
       then k (1, 0)
       else bif !decide (t7 = 0)
        then bif t8.snd.tmod t7 != 0
         then k (1, 0)
         else bif !decide (t7 = 0)
          then bif !decide (t7 = 0)
           then bif t12
            then k (t13.fst, t13.snd)
            else n
           else n
          else n
        else n
      else n
def B.ref_Div.c {γ : Type} (n : γ) (k : Int × Int → γ) (a0 : Int) (a1 : Int) (b0 : Int) (b1 : Int) : γ := let t1 := B.ref_number b0 b1; let t2 := B.ref_number a0 a1; let t3 := IntKind.i64.wrap (0 - t2); let t4 := B.ref_Const t3; let t5 := IntKind.i64.wrap (t2.tdiv t1); let t6 := B.ref_Const t5; let t7 := B.ref_far t1; let t8 := B.ref_Norm a0 a1; let t9 := IntKind.u64.wrap (t8.snd.tdiv t7); let t10 := B.ref_of t9; let t11 := IntKind.u64.wrap (t8.fst.tdiv t7); let t12 := B.ref_class.ok t10.fst t10.snd (decide (t1 < 0)) t11; let t13 := B.ref_class t10.fst t10.snd (decide (t1 < 0)) t11; B.ref_Div.c0 n k a0 a1 b0 b1 t1 t2 t3 t4 t5 t6 t7 t8 t9 t10 t11 t12 t13
def B.ref_Div.ok (a0 : Int) (a1 : Int) (b0 : Int) (b1 : Int) : Bool := B.ref_Div.c false (fun _ => true) a0 a1 b0 b1
def B.ref_Div (a0 : Int) (a1 : Int) (b0 : Int) (b1 : Int) : Int × Int := B.ref_Div.c (0, 0) id a0 a1 b0 b1
def B.ref_Div.F : FV := mkF (cP (cA (cP (cI .u64) (cP (cI .u64) cU))) (cP (cA (cP (cI .u64) (cP (cI .u64) cU))) cU)) (fun | ((a0, (a1, ())), ((b0, (b1, ())), ())) => B.ref_Div.ok a0 a1 b0 b1) (fun | ((a0, (a1, ())), ((b0, (b1, ())), ())) => .agg #[.int .u64 (B.ref_Div a0 a1 b0 b1).1, .int .u64 (B.ref_Div a0 a1 b0 b1).2])
def L_B.ref_Div : TL := (90, B.ref_Div.F) :: L_B.ref_Mul
theorem B.ref_Div.p0 {γ : Type} (k : Int × Int → γ) (a0 : Int) (a1 : Int) (b0 : Int) (b1 : Int) (t1 : Int) (t2 : Int) (t3 : Int) (t4 : Int × Int) (t5 : Int) (t6 : Int × Int) (t7 : Int) (t8 : Int × Int) (t9 : Int) (t10 : Int × Int) (t11 : Int) (t12 : Bool) (t13 : Int × Int) : B.ref_Div.c0 false (fun _ => true) a0 a1 b0 b1 t1 t2 t3 t4 t5 t6 t7 t8 t9 t10 t11 t12 t13 = true → B.ref_Div.c0 none (fun q => some (k q)) a0 a1 b0 b1 t1 t2 t3 t4 t5 t6 t7 t8 t9 t10 t11 t12 t13 = some (k (B.ref_Div.c0 (0, 0) id a0 a1 b0 b1 t1 t2 t3 t4 t5 t6 t7 t8 t9 t10 t11 t12 t13)) := by
  unfold B.ref_Div.c0; (repeat' (first | (apply pn k) | (exact pn_none _ _) | (exact pn_leaf k _)))
theorem B.ref_Div.p {γ : Type} (k : Int × Int → γ) (a0 : Int) (a1 : Int) (b0 : Int) (b1 : Int) (h : B.ref_Div.ok a0 a1 b0 b1 = true) : B.ref_Div.c none (fun q => some (k q)) a0 a1 b0 b1 = some (k (B.ref_Div a0 a1 b0 b1)) :=
  let t1 := B.ref_number b0 b1; let t2 := B.ref_number a0 a1; let t3 := IntKind.i64.wrap (0 - t2); let t4 := B.ref_Const t3; let t5 := IntKind.i64.wrap (t2.tdiv t1); let t6 := B.ref_Const t5; let t7 := B.ref_far t1; let t8 := B.ref_Norm a0 a1; let t9 := IntKind.u64.wrap (t8.snd.tdiv t7); let t10 := B.ref_of t9; let t11 := IntKind.u64.wrap (t8.fst.tdiv t7); let t12 := B.ref_class.ok t10.fst t10.snd (decide (t1 < 0)) t11; let t13 := B.ref_class t10.fst t10.snd (decide (t1 < 0)) t11; B.ref_Div.p0 k a0 a1 b0 b1 t1 t2 t3 t4 t5 t6 t7 t8 t9 t10 t11 t12 t13 h
theorem B.ref_Div.r (a0 : Int) (a1 : Int) (b0 : Int) (b1 : Int) : runF P G (tab L_B.ref_Mul) { merge := true } 60 Tryz.f90 [.agg #[.int .u64 a0, .int .u64 a1], .agg #[.int .u64 b0, .int .u64 b1]] = B.ref_Div.c none (fun q => some (.agg #[.int .u64 (q).1, .int .u64 (q).2] : Value)) a0 a1 b0 b1 := by kernel_rfl
theorem B.ref_Div.t : TabOK P G (tab L_B.ref_Div) :=
  TabOK_mk C B.ref_Mul.t Tryz.func90 (by kernel_rfl) true 60 (by
    rintro ⟨⟨a0, ⟨a1, ⟨⟩⟩⟩, ⟨⟨b0, ⟨b1, ⟨⟩⟩⟩, ⟨⟩⟩⟩ h
    exact (B.ref_Div.r a0 a1 b0 b1).trans (B.ref_Div.p (fun q => (.agg #[.int .u64 (q).1, .int .u64 (q).2] : Value)) a0 a1 b0 b1 h))
def B.ref_Rem.c0 {γ : Type} (n : γ) (k : Int × Int → γ) (a0 : Int) (a1 : Int) (b0 : Int) (b1 : Int) (t1 : Int) (t2 : Int × Int) (t3 : Int) (t4 : Int × Int) (t5 : Int × Int) (t6 : Int × Int) (t7 : Bool) (t8 : Bool) (t9 : Int × Int) (t10 : Int × Int × Bool) (t11 : Bool) (t12 : Bool) (t13 : Int × Int × Bool) (t14 : Int × Int) (t15 : Bool) (t16 : Int × Int) : γ := bif b0 == 0 && (b1 == 0 && true)
  then k (1, 0)
  else bif a0 == 0
   then bif b0 == 0
    then bif t1 == -1
     then k (t2.fst, t2.snd)
     else bif !decide (t1 = 0)
      then k (t4.fst, t4.snd)
      else n
    else bif t7
     then bif t8
      then bif t11
       then bif t12
        then bif t15
         then k (t16.fst, t16.snd)
         else n
        else n
       else n
      else n
     else n
   else bif t7
    then bif t8
     then bif t11
      then bif t12
       then bif t15
        then k (t16.fst, t16.snd)
        else n
       else n
      else n
     else n
    else n
def B.ref_Rem.c {γ : Type} (n : γ) (k : Int × Int → γ) (a0 : Int) (a1 : Int) (b0 : Int) (b1 : Int) : γ := let t1 := B.ref_number b0 b1; let t2 := B.ref_Const 0; let t3 := B.ref_number a0 a1; let t4 := B.ref_Const (t3.tmod t1); let t5 := B.ref_of a0; let t6 := B.ref_of b0; let t7 := B.ref_gcd.g t5.fst t5.snd t6.fst t6.snd; let t8 := B.ref_r.ok b0 b1; let t9 := B.ref_gcd t5.fst t5.snd t6.fst t6.snd; let t10 := B.ref_r b0 b1; let t11 := B.ref_gcd.g t9.fst t9.snd t10.fst t10.snd.fst; let t12 := B.ref_r.ok a0 a1; let t13 := B.ref_r a0 a1; let t14 := B.ref_gcd t9.fst t9.snd t10.fst t10.snd.fst; let t15 := B.ref_class.ok t13.fst t13.snd.fst t13.snd.snd t14.snd; let t16 := B.ref_class t13.fst t13.snd.fst t13.snd.snd t14.snd; B.ref_Rem.c0 n k a0 a1 b0 b1 t1 t2 t3 t4 t5 t6 t7 t8 t9 t10 t11 t12 t13 t14 t15 t16
def B.ref_Rem.ok (a0 : Int) (a1 : Int) (b0 : Int) (b1 : Int) : Bool := B.ref_Rem.c false (fun _ => true) a0 a1 b0 b1
def B.ref_Rem (a0 : Int) (a1 : Int) (b0 : Int) (b1 : Int) : Int × Int := B.ref_Rem.c (0, 0) id a0 a1 b0 b1
def B.ref_Rem.F : FV := mkF (cP (cA (cP (cI .u64) (cP (cI .u64) cU))) (cP (cA (cP (cI .u64) (cP (cI .u64) cU))) cU)) (fun | ((a0, (a1, ())), ((b0, (b1, ())), ())) => B.ref_Rem.ok a0 a1 b0 b1) (fun | ((a0, (a1, ())), ((b0, (b1, ())), ())) => .agg #[.int .u64 (B.ref_Rem a0 a1 b0 b1).1, .int .u64 (B.ref_Rem a0 a1 b0 b1).2])
def L_B.ref_Rem : TL := (92, B.ref_Rem.F) :: L_B.ref_Div
theorem B.ref_Rem.p0 {γ : Type} (k : Int × Int → γ) (a0 : Int) (a1 : Int) (b0 : Int) (b1 : Int) (t1 : Int) (t2 : Int × Int) (t3 : Int) (t4 : Int × Int) (t5 : Int × Int) (t6 : Int × Int) (t7 : Bool) (t8 : Bool) (t9 : Int × Int) (t10 : Int × Int × Bool) (t11 : Bool) (t12 : Bool) (t13 : Int × Int × Bool) (t14 : Int × Int) (t15 : Bool) (t16 : Int × Int) : B.ref_Rem.c0 false (fun _ => true) a0 a1 b0 b1 t1 t2 t3 t4 t5 t6 t7 t8 t9 t10 t11 t12 t13 t14 t15 t16 = true → B.ref_Rem.c0 none (fun q => some (k q)) a0 a1 b0 b1 t1 t2 t3 t4 t5 t6 t7 t8 t9 t10 t11 t12 t13 t14 t15 t16 = some (k (B.ref_Rem.c0 (0, 0) id a0 a1 b0 b1 t1 t2 t3 t4 t5 t6 t7 t8 t9 t10 t11 t12 t13 t14 t15 t16)) := by
  unfold B.ref_Rem.c0; (repeat' (first | (apply pn k) | (exact pn_none _ _) | (exact pn_leaf k _)))
theorem B.ref_Rem.p {γ : Type} (k : Int × Int → γ) (a0 : Int) (a1 : Int) (b0 : Int) (b1 : Int) (h : B.ref_Rem.ok a0 a1 b0 b1 = true) : B.ref_Rem.c none (fun q => some (k q)) a0 a1 b0 b1 = some (k (B.ref_Rem a0 a1 b0 b1)) :=
  let t1 := B.ref_number b0 b1; let t2 := B.ref_Const 0; let t3 := B.ref_number a0 a1; let t4 := B.ref_Const (t3.tmod t1); let t5 := B.ref_of a0; let t6 := B.ref_of b0; let t7 := B.ref_gcd.g t5.fst t5.snd t6.fst t6.snd; let t8 := B.ref_r.ok b0 b1; let t9 := B.ref_gcd t5.fst t5.snd t6.fst t6.snd; let t10 := B.ref_r b0 b1; let t11 := B.ref_gcd.g t9.fst t9.snd t10.fst t10.snd.fst; let t12 := B.ref_r.ok a0 a1; let t13 := B.ref_r a0 a1; let t14 := B.ref_gcd t9.fst t9.snd t10.fst t10.snd.fst; let t15 := B.ref_class.ok t13.fst t13.snd.fst t13.snd.snd t14.snd; let t16 := B.ref_class t13.fst t13.snd.fst t13.snd.snd t14.snd; B.ref_Rem.p0 k a0 a1 b0 b1 t1 t2 t3 t4 t5 t6 t7 t8 t9 t10 t11 t12 t13 t14 t15 t16 h
theorem B.ref_Rem.r (a0 : Int) (a1 : Int) (b0 : Int) (b1 : Int) : runF P G (tab L_B.ref_Div) { merge := true } 60 Tryz.f92 [.agg #[.int .u64 a0, .int .u64 a1], .agg #[.int .u64 b0, .int .u64 b1]] = B.ref_Rem.c none (fun q => some (.agg #[.int .u64 (q).1, .int .u64 (q).2] : Value)) a0 a1 b0 b1 := by kernel_rfl
theorem B.ref_Rem.t : TabOK P G (tab L_B.ref_Rem) :=
  TabOK_mk C B.ref_Div.t Tryz.func92 (by kernel_rfl) true 60 (by
    rintro ⟨⟨a0, ⟨a1, ⟨⟩⟩⟩, ⟨⟨b0, ⟨b1, ⟨⟩⟩⟩, ⟨⟩⟩⟩ h
    exact (B.ref_Rem.r a0 a1 b0 b1).trans (B.ref_Rem.p (fun q => (.agg #[.int .u64 (q).1, .int .u64 (q).2] : Value)) a0 a1 b0 b1 h))
end
end Go.Proofs.YtonpbbhlmapbdaaGreatDoor.V
