/- What the functions of this seat compute, told by evaluation of their code; What the functions of this seat compute, told by evaluation of their code; What the functions of this seat compute, told by evaluation of their code; What the functions of this seat compute, told by evaluation of their code. Conditions: none. -/
import Derived.Test.YtmadebejnhinoaaDoorB

set_option linter.unusedVariables false
set_option linter.unusedSimpArgs false
namespace Go.Proofs.YtmadebejnhinoaaDoor.V
open Go Go.Wk
noncomputable section

def word_Mod.c0 {γ : Type} (n : γ) (k : Int → γ) (a : Int) (b : Int) (t1 : Int) (t2 : Int) (t3 : Int) (t4 : Int) (t5 : Int) (t6 : Int) : γ := bif b == 0
  then k (t1)
  else bif decide (a ≥ 0)
   then bif !decide (b = 0)
    then k (t1.tmod b)
    else n
   else bif !decide (b = 0)
    then k (t6)
    else n
def word_Mod.c {γ : Type} (n : γ) (k : Int → γ) (a : Int) (b : Int) : γ := let t1 := IntKind.u64.wrap a; let t2 := IntKind.u64.wrap (b - 1); let t3 := IntKind.i64.wrap (a + 1); let t4 := IntKind.i64.wrap (0 - t3); let t5 := IntKind.u64.wrap t4; let t6 := IntKind.u64.wrap (t2 - t5.tmod b); word_Mod.c0 n k a b t1 t2 t3 t4 t5 t6
def word_Mod.ok (a : Int) (b : Int) : Bool := word_Mod.c false (fun _ => true) a b
def word_Mod (a : Int) (b : Int) : Int := word_Mod.c (0) id a b
def word_Mod.F : FV := mkF (cP (cI .i64) (cP (cI .u64) cU)) (fun _ => true) (fun | (a, (b, ())) => .int .u64 (word_Mod a b))
def L_word_Mod : TL := (55, word_Mod.F) :: []
theorem word_Mod.okt (a : Int) (b : Int) : word_Mod.ok a b = true := by
  unfold word_Mod.ok word_Mod.c word_Mod.c0; by_cases h : b = 0 <;> simp [h]
theorem word_Mod.p0 {γ : Type} (k : Int → γ) (a : Int) (b : Int) (t1 : Int) (t2 : Int) (t3 : Int) (t4 : Int) (t5 : Int) (t6 : Int) : word_Mod.c0 false (fun _ => true) a b t1 t2 t3 t4 t5 t6 = true → word_Mod.c0 none (fun q => some (k q)) a b t1 t2 t3 t4 t5 t6 = some (k (word_Mod.c0 (0) id a b t1 t2 t3 t4 t5 t6)) := by
  unfold word_Mod.c0; (repeat' (first | (apply pn k) | (exact pn_none _ _) | (exact pn_leaf k _)))
theorem word_Mod.p {γ : Type} (k : Int → γ) (a : Int) (b : Int) (h : word_Mod.ok a b = true) : word_Mod.c none (fun q => some (k q)) a b = some (k (word_Mod a b)) :=
  let t1 := IntKind.u64.wrap a; let t2 := IntKind.u64.wrap (b - 1); let t3 := IntKind.i64.wrap (a + 1); let t4 := IntKind.i64.wrap (0 - t3); let t5 := IntKind.u64.wrap t4; let t6 := IntKind.u64.wrap (t2 - t5.tmod b); word_Mod.p0 k a b t1 t2 t3 t4 t5 t6 h
theorem word_Mod.r (a : Int) (b : Int) : runF P G (tab []) { merge := true } 60 Tryd.f55 [.int .i64 a, .int .u64 b] = word_Mod.c none (fun q => some (.int .u64 (q) : Value)) a b := by kernel_rfl
theorem word_Mod.t : TabOK P G (tab L_word_Mod) :=
  TabOK_mk C TabOK_nil Tryd.func55 (by kernel_rfl) true 60 (by
    rintro ⟨a, ⟨b, ⟨⟩⟩⟩ h
    exact (word_Mod.r a b).trans (word_Mod.p (fun q => (.int .u64 (q) : Value)) a b (word_Mod.okt a b)))

def word_Gcd.val (q : Int) : Value := .int .u64 (q)
def word_Gcd.h : List (Nat × List Nat × Nat) := [(1, [0, 1], 0)]
def word_Gcd.e0 (q : Int × Int) : St := { tmps := [.val (.int .u64 (q).1), .val (.int .u64 (q).2), .unk, .unk, .unk, .unk, .unk, .unk, .unk, .unk, .unk, .unk], blks := [], saved := [] }
noncomputable def word_Gcd.B0 : Code := loopAt [1, 0, 0] (fbody Tryd.f68)
noncomputable def word_Gcd.H (F0 : LSum) : Heads := { heads := word_Gcd.h, merge := true, sums := [(1, F0)] }
noncomputable def word_Gcd.H0  : Heads := { heads := word_Gcd.h, merge := true, sums := [] }
noncomputable def word_Gcd.K0 (F0 : LSum) : Xt → St → Option Value := kAt P G (tab L_word_Mod) (word_Gcd.H F0) [1, 0, 0] 60 (fbody Tryd.f68) (retK P G Tryd.f68)
def word_Gcd.l0.c {γ : Type} (k0 : Int × Int → Option γ) (k : Int → Option γ) (s0 : Int) (s1 : Int) : Option γ := bif s1 != 0
  then bif !decide (s1 = 0)
   then k0 (s1, s0.tmod s1)
   else none
  else k (s0)
def word_Gcd.c {γ : Type} (k0 : Int × Int → Option γ) (k : Int → Option γ) (a : Int) (b : Int) : Option γ := k0 (a, b)
def word_Gcd.L0 (N : Nat)  : Nat → Int × Int → Option (Int)
  | 0, _ => none
  | m + 1, q => word_Gcd.l0.c (word_Gcd.L0 N m) some (q).1 (q).2
def word_Gcd.o (N : Nat) (a : Int) (b : Int) : Option (Int) := word_Gcd.c (word_Gcd.L0 N  N) some a b
noncomputable def word_Gcd.S0 (N : Nat) : LSum := sumN P G (tab L_word_Mod) (word_Gcd.H0 ) 60 word_Gcd.B0 N
theorem word_Gcd.l0.p {γ δ : Type} (f : γ → δ) (k0 : Int × Int → Option γ) (k : Int → Option γ) (s0 : Int) (s1 : Int) : word_Gcd.l0.c (fun q => (k0 q).map f) (fun q => (k q).map f) s0 s1 = (word_Gcd.l0.c k0 k s0 s1).map f := by
  unfold word_Gcd.l0.c; (repeat' (first | (apply pm f) | (exact rfl)))
theorem word_Gcd.p {γ δ : Type} (f : γ → δ) (k0 : Int × Int → Option γ) (k : Int → Option γ) (a : Int) (b : Int) : word_Gcd.c (fun q => (k0 q).map f) (fun q => (k q).map f) a b = (word_Gcd.c k0 k a b).map f := by
  unfold word_Gcd.c; (repeat' (first | (apply pm f) | (exact rfl)))
theorem word_Gcd.S0.ok (N : Nat) : LoopsOK P G (word_Gcd.H0 ).sums word_Gcd.B0 := by
  refine LoopsOK_code fun i hi F hF => ?_
  have hlen : (loopsOf word_Gcd.B0).length = 0 := by kernel_rfl
  rw [hlen] at hi
  omega

theorem word_Gcd.S0.snd (N : Nat) : SoundL P G word_Gcd.B0 (word_Gcd.S0 N) := sumN_sound C.mixed C.names word_Mod.t (word_Gcd.S0.ok N) N
theorem word_Gcd.l0.r (F0 G0 : LSum) (s0 : Int) (s1 : Int) : ex P G (tab L_word_Mod) (word_Gcd.H0 ) 60 word_Gcd.B0 (word_Gcd.e0 (s0, s1)) (roundK (word_Gcd.H0 ) word_Gcd.B0 G0 (word_Gcd.K0 F0)) = word_Gcd.l0.c (fun q => G0.run (word_Gcd.e0 q) (word_Gcd.K0 F0)) (fun q => some (word_Gcd.val q)) s0 s1 := by kernel_rfl
theorem word_Gcd.r (F0 : LSum) (a : Int) (b : Int) : runF P G (tab L_word_Mod) (word_Gcd.H F0) 60 Tryd.f68 [.int .u64 a, .int .u64 b] = word_Gcd.c (fun q => F0.run (word_Gcd.e0 q) (word_Gcd.K0 F0)) (fun q => some (word_Gcd.val q)) a b := by kernel_rfl
theorem word_Gcd.L0.ok (N : Nat) (F0 : LSum)   : ∀ m q, (sumN P G (tab L_word_Mod) (word_Gcd.H0 ) 60 word_Gcd.B0 m).run (word_Gcd.e0 q) (word_Gcd.K0 F0) = (word_Gcd.L0 N  m q).map word_Gcd.val
  | 0, q => rfl
  | m + 1, q => by
    have ih := word_Gcd.L0.ok N F0   m
    refine (sumN_run (n := m) rfl).trans ((word_Gcd.l0.r F0 (sumN P G (tab L_word_Mod) (word_Gcd.H0 ) 60 word_Gcd.B0 m) (q).1 (q).2).trans ?_)
    refine Eq.trans ?_ (word_Gcd.l0.p word_Gcd.val (word_Gcd.L0 N m) some (q).1 (q).2)
    have e0 : (fun q => (sumN P G (tab L_word_Mod) (word_Gcd.H0 ) 60 word_Gcd.B0 m).run (word_Gcd.e0 q) (word_Gcd.K0 F0)) = (fun q => ((word_Gcd.L0 N m) q).map word_Gcd.val) := funext ih
    rw [e0]; rfl

theorem word_Gcd.q (N : Nat) (a : Int) (b : Int) : runF P G (tab L_word_Mod) (word_Gcd.H (word_Gcd.S0 N)) 60 Tryd.f68 [.int .u64 a, .int .u64 b] = (word_Gcd.o N a b).map word_Gcd.val := by
  have hk0 := word_Gcd.L0.ok N (word_Gcd.S0 N)   N
  refine (word_Gcd.r (word_Gcd.S0 N) a b).trans ?_
  refine Eq.trans ?_ (word_Gcd.p word_Gcd.val (word_Gcd.L0 N  N) some a b)
  have e0 : (fun q => (word_Gcd.S0 N).run (word_Gcd.e0 q) (word_Gcd.K0 (word_Gcd.S0 N))) = (fun q => ((word_Gcd.L0 N  N) q).map word_Gcd.val) := funext hk0
  rw [e0]; rfl

theorem word_Gcd.lok (N : Nat) : LoopsOK P G (word_Gcd.H (word_Gcd.S0 N)).sums (fbody Tryd.f68) := by
  refine LoopsOK_code fun i hi F hF => ?_
  have hlen : (loopsOf (fbody Tryd.f68)).length = 1 := by kernel_rfl
  rw [hlen] at hi
  match i, hi with
  | 0, _ => exact soundAt (B' := word_Gcd.B0) (by kernel_rfl) (by kernel_rfl) (word_Gcd.S0.snd N) hF
  | _ + 1, h => omega

def word_Gcd (a : Int) (b : Int) : Int := hide ((word_Gcd.o (b.toNat + 2) a b).getD (0))
def word_Gcd.g (a : Int) (b : Int) : Bool := hide (word_Gcd.o (b.toNat + 2) a b).isSome
theorem word_Gcd.s (a : Int) (b : Int) (h : word_Gcd.g a b = true) : word_Gcd.o (b.toNat + 2) a b = some (word_Gcd a b) := by
  unfold word_Gcd.g at h; unfold word_Gcd; simp only [hide_eq] at h ⊢; revert h; cases word_Gcd.o (b.toNat + 2) a b <;> simp
def word_Gcd.F : FV := mkF (cP (cI .u64) (cP (cI .u64) cU)) (fun | (a, (b, ())) => word_Gcd.g a b) (fun | (a, (b, ())) => word_Gcd.val (word_Gcd a b))
def L_word_Gcd : TL := (68, word_Gcd.F) :: L_word_Mod
theorem word_Gcd.t : TabOK P G (tab L_word_Gcd) :=
  TabOK_mkH C word_Mod.t Tryd.func68 (by kernel_rfl) (fun | (_, (b, ())) => word_Gcd.H (word_Gcd.S0 (b.toNat + 2))) (by rintro ⟨a, ⟨b, ⟨⟩⟩⟩; exact word_Gcd.lok _) 60 (by
    rintro ⟨a, ⟨b, ⟨⟩⟩⟩ h
    exact (word_Gcd.q (b.toNat + 2) a b).trans (congrArg (Option.map word_Gcd.val) (word_Gcd.s a b h)))

def bits_Mul64.c0 {γ : Type} (k : Int × Int → γ) (a : Int) (b : Int) (t1 : Int) (t2 : Int) (t3 : Int) (t4 : Int) (t5 : Int) (t6 : Int) (t7 : Int) (t8 : Int) (t9 : Int) : γ := k (t8, t9)
def bits_Mul64.c {γ : Type} (k : Int × Int → γ) (a : Int) (b : Int) : γ := let t1 := IntKind.u64.wrap (a.fdiv (2 ^ min (Int.toNat 32) IntKind.u64.bits) * b.fdiv (2 ^ min (Int.toNat 32) IntKind.u64.bits)); let t2 := IntKind.u64.wrap (a.fdiv (2 ^ min (Int.toNat 32) IntKind.u64.bits) * andI IntKind.u64 b 4294967295); let t3 := IntKind.u64.wrap (andI IntKind.u64 a 4294967295 * andI IntKind.u64 b 4294967295); let t4 := IntKind.u64.wrap (t2 + t3.fdiv (2 ^ min (Int.toNat 32) IntKind.u64.bits)); let t5 := IntKind.u64.wrap (t1 + t4.fdiv (2 ^ min (Int.toNat 32) IntKind.u64.bits)); let t6 := IntKind.u64.wrap (andI IntKind.u64 a 4294967295 * b.fdiv (2 ^ min (Int.toNat 32) IntKind.u64.bits)); let t7 := IntKind.u64.wrap (andI IntKind.u64 t4 4294967295 + t6); let t8 := IntKind.u64.wrap (t5 + t7.fdiv (2 ^ min (Int.toNat 32) IntKind.u64.bits)); let t9 := IntKind.u64.wrap (a * b); bits_Mul64.c0 k a b t1 t2 t3 t4 t5 t6 t7 t8 t9
def bits_Mul64 (a : Int) (b : Int) : Int × Int := bits_Mul64.c id a b
def bits_Mul64.F : FV := mkF (cP (cI .u64) (cP (cI .u64) cU)) (fun _ => true) (fun | (a, (b, ())) => .tuple #[.int .u64 (bits_Mul64 a b).1, .int .u64 (bits_Mul64 a b).2])
def L_bits_Mul64 : TL := (63, bits_Mul64.F) :: L_word_Gcd
theorem bits_Mul64.p0 {γ : Type} (k : Int × Int → γ) (a : Int) (b : Int) (t1 : Int) (t2 : Int) (t3 : Int) (t4 : Int) (t5 : Int) (t6 : Int) (t7 : Int) (t8 : Int) (t9 : Int) : bits_Mul64.c0 k a b t1 t2 t3 t4 t5 t6 t7 t8 t9 = k (bits_Mul64.c0 id a b t1 t2 t3 t4 t5 t6 t7 t8 t9) := by
  unfold bits_Mul64.c0; (repeat' (first | (apply pc k) | (exact rfl)))
theorem bits_Mul64.p {γ : Type} (k : Int × Int → γ) (a : Int) (b : Int) : bits_Mul64.c k a b = k (bits_Mul64 a b) :=
  let t1 := IntKind.u64.wrap (a.fdiv (2 ^ min (Int.toNat 32) IntKind.u64.bits) * b.fdiv (2 ^ min (Int.toNat 32) IntKind.u64.bits)); let t2 := IntKind.u64.wrap (a.fdiv (2 ^ min (Int.toNat 32) IntKind.u64.bits) * andI IntKind.u64 b 4294967295); let t3 := IntKind.u64.wrap (andI IntKind.u64 a 4294967295 * andI IntKind.u64 b 4294967295); let t4 := IntKind.u64.wrap (t2 + t3.fdiv (2 ^ min (Int.toNat 32) IntKind.u64.bits)); let t5 := IntKind.u64.wrap (t1 + t4.fdiv (2 ^ min (Int.toNat 32) IntKind.u64.bits)); let t6 := IntKind.u64.wrap (andI IntKind.u64 a 4294967295 * b.fdiv (2 ^ min (Int.toNat 32) IntKind.u64.bits)); let t7 := IntKind.u64.wrap (andI IntKind.u64 t4 4294967295 + t6); let t8 := IntKind.u64.wrap (t5 + t7.fdiv (2 ^ min (Int.toNat 32) IntKind.u64.bits)); let t9 := IntKind.u64.wrap (a * b); bits_Mul64.p0 k a b t1 t2 t3 t4 t5 t6 t7 t8 t9
theorem bits_Mul64.r (a : Int) (b : Int) : runF P G (tab L_word_Gcd) { merge := true } 60 Tryd.f63 [.int .u64 a, .int .u64 b] = bits_Mul64.c (fun q => some (.tuple #[.int .u64 (q).1, .int .u64 (q).2] : Value)) a b := by kernel_rfl
theorem bits_Mul64.t : TabOK P G (tab L_bits_Mul64) :=
  TabOK_mk C word_Gcd.t Tryd.func63 (by kernel_rfl) true 60 (by
    rintro ⟨a, ⟨b, ⟨⟩⟩⟩ h
    exact (bits_Mul64.r a b).trans (bits_Mul64.p (fun q => some (.tuple #[.int .u64 (q).1, .int .u64 (q).2] : Value)) a b))

def bits_Add64 (a b c : Int) : Int × Int := (hide ((a.toNat + b.toNat + c.toNat) % 18446744073709551616 : Nat), hide ((a.toNat + b.toNat + c.toNat) / 18446744073709551616 : Nat))
def bits_Add64.F : FV := mkF (cP (cI .u64) (cP (cI .u64) (cP (cI .u64) cU))) (fun | (a, (b, (c, ()))) => decide (c.toNat ≤ 1)) (fun | (a, (b, (c, ()))) => .tuple #[.int .u64 (bits_Add64 a b c).1, .int .u64 (bits_Add64 a b c).2])
def L_bits_Add64 : TL := (64, bits_Add64.F) :: L_bits_Mul64
theorem bits_Add64.x (a b c : Int) (hc : c.toNat ≤ 1) (w : World) : (addEntry #[.int .u64 a, .int .u64 b, .int .u64 c]).run P w = .ok (.tuple #[.int .u64 (bits_Add64 a b c).1, .int .u64 (bits_Add64 a b c).2]) w := by
  unfold addEntry
  rw [Sem.run_bind, three_run _ a b c hc w]
  unfold bits_Add64; simp only [hide_eq]; rfl
theorem bits_Add64.t : TabOK P G (tab L_bits_Add64) :=
  TabOK_ext bits_Mul64.t (by
    intro vs v w h
    obtain ⟨⟨a, b, c, _⟩, rfl, h1, rfl⟩ := mkF_inv h
    simp only [decide_eq_true_eq] at h1
    show (callFunc 64 #[.int .u64 a, .int .u64 b, .int .u64 c]).run P w = _
    rw [run_callFunc_extern Tryd.func64 (by kernel_rfl) (by kernel_rfl) (by kernel_rfl) (e := addEntry) (by kernel_rfl), bits_Add64.x a b c h1 w]
    rfl)

def bits_Sub64 (a b c : Int) : Int × Int := (hide ((a.toNat + 18446744073709551616 - b.toNat - c.toNat) % 18446744073709551616 : Nat), hide (if a.toNat < b.toNat + c.toNat then 1 else 0))
def bits_Sub64.F : FV := mkF (cP (cI .u64) (cP (cI .u64) (cP (cI .u64) cU))) (fun | (a, (b, (c, ()))) => decide (c.toNat ≤ 1)) (fun | (a, (b, (c, ()))) => .tuple #[.int .u64 (bits_Sub64 a b c).1, .int .u64 (bits_Sub64 a b c).2])
def L_bits_Sub64 : TL := (65, bits_Sub64.F) :: L_bits_Add64
theorem bits_Sub64.x (a b c : Int) (hc : c.toNat ≤ 1) (w : World) : (subEntry #[.int .u64 a, .int .u64 b, .int .u64 c]).run P w = .ok (.tuple #[.int .u64 (bits_Sub64 a b c).1, .int .u64 (bits_Sub64 a b c).2]) w := by
  unfold subEntry
  rw [Sem.run_bind, three_run _ a b c hc w]
  unfold bits_Sub64; simp only [hide_eq]
  by_cases h : a.toNat < b.toNat + c.toNat
  · simp only [if_pos h]; show Result.ok _ w = _; rw [if_pos h]; rfl
  · simp only [if_neg h]; show Result.ok _ w = _; rw [if_neg h]; rfl
theorem bits_Sub64.t : TabOK P G (tab L_bits_Sub64) :=
  TabOK_ext bits_Add64.t (by
    intro vs v w h
    obtain ⟨⟨a, b, c, _⟩, rfl, h1, rfl⟩ := mkF_inv h
    simp only [decide_eq_true_eq] at h1
    show (callFunc 65 #[.int .u64 a, .int .u64 b, .int .u64 c]).run P w = _
    rw [run_callFunc_extern Tryd.func65 (by kernel_rfl) (by kernel_rfl) (by kernel_rfl) (e := subEntry) (by kernel_rfl), bits_Sub64.x a b c h1 w]
    rfl)

def bits_Len64.c0 {γ : Type} (n : γ) (k : Int → γ) (a : Int) (t1 : Int) (t2 : Int) (t3 : Int) (t4 : Int) (t5 : Int) (t6 : Int) (t7 : Int) (t8 : Int) (t9 : Int) (t10 : Int) (t11 : Int) : γ := bif decide (0 ≤ t4) && decide (t4 < ↑len8tab.size)
  then k (t11)
  else n
def bits_Len64.c {γ : Type} (n : γ) (k : Int → γ) (a : Int) : γ := let t1 := bif decide (a ≥ 4294967296) then a.fdiv (2 ^ min (Int.toNat 32) IntKind.u64.bits) else a; let t2 := bif decide (t1 ≥ 65536) then t1.fdiv (2 ^ min (Int.toNat 16) IntKind.u64.bits) else t1; let t3 := bif decide (t2 ≥ 256) then t2.fdiv (2 ^ min (Int.toNat 8) IntKind.u64.bits) else t2; let t4 := IntKind.u8.wrap t3; let t5 := bif decide (a ≥ 4294967296) then 32 else 0; let t6 := IntKind.i64.wrap (t5 + 16); let t7 := bif decide (t1 ≥ 65536) then t6 else t5; let t8 := IntKind.i64.wrap (t7 + 8); let t9 := bif decide (t2 ≥ 256) then t8 else t7; let t10 := IntKind.i64.wrap (byteAt len8tab t4); let t11 := IntKind.i64.wrap (t9 + t10); bits_Len64.c0 n k a t1 t2 t3 t4 t5 t6 t7 t8 t9 t10 t11
def bits_Len64.ok (a : Int) : Bool := bits_Len64.c false (fun _ => true) a
def bits_Len64 (a : Int) : Int := bits_Len64.c (0) id a
def bits_Len64.F : FV := mkF (cP (cI .u64) cU) (fun _ => true) (fun | (a, ()) => .int .i64 (bits_Len64 a))
def L_bits_Len64 : TL := (73, bits_Len64.F) :: L_bits_Sub64
theorem bits_Len64.okt (a : Int) : bits_Len64.ok a = true := by
  unfold bits_Len64.ok bits_Len64.c bits_Len64.c0; simp only [u8i, cond_true, Bool.cond_self]
theorem bits_Len64.p0 {γ : Type} (k : Int → γ) (a : Int) (t1 : Int) (t2 : Int) (t3 : Int) (t4 : Int) (t5 : Int) (t6 : Int) (t7 : Int) (t8 : Int) (t9 : Int) (t10 : Int) (t11 : Int) : bits_Len64.c0 false (fun _ => true) a t1 t2 t3 t4 t5 t6 t7 t8 t9 t10 t11 = true → bits_Len64.c0 none (fun q => some (k q)) a t1 t2 t3 t4 t5 t6 t7 t8 t9 t10 t11 = some (k (bits_Len64.c0 (0) id a t1 t2 t3 t4 t5 t6 t7 t8 t9 t10 t11)) := by
  unfold bits_Len64.c0; (repeat' (first | (apply pn k) | (exact pn_none _ _) | (exact pn_leaf k _)))
theorem bits_Len64.p {γ : Type} (k : Int → γ) (a : Int) (h : bits_Len64.ok a = true) : bits_Len64.c none (fun q => some (k q)) a = some (k (bits_Len64 a)) :=
  let t1 := bif decide (a ≥ 4294967296) then a.fdiv (2 ^ min (Int.toNat 32) IntKind.u64.bits) else a; let t2 := bif decide (t1 ≥ 65536) then t1.fdiv (2 ^ min (Int.toNat 16) IntKind.u64.bits) else t1; let t3 := bif decide (t2 ≥ 256) then t2.fdiv (2 ^ min (Int.toNat 8) IntKind.u64.bits) else t2; let t4 := IntKind.u8.wrap t3; let t5 := bif decide (a ≥ 4294967296) then 32 else 0; let t6 := IntKind.i64.wrap (t5 + 16); let t7 := bif decide (t1 ≥ 65536) then t6 else t5; let t8 := IntKind.i64.wrap (t7 + 8); let t9 := bif decide (t2 ≥ 256) then t8 else t7; let t10 := IntKind.i64.wrap (byteAt len8tab t4); let t11 := IntKind.i64.wrap (t9 + t10); bits_Len64.p0 k a t1 t2 t3 t4 t5 t6 t7 t8 t9 t10 t11 h
theorem bits_Len64.r (a : Int) : runF P G (tab L_bits_Sub64) { merge := true } 60 Tryd.f73 [.int .u64 a] = bits_Len64.c none (fun q => some (.int .i64 (q) : Value)) a := by kernel_rfl
theorem bits_Len64.t : TabOK P G (tab L_bits_Len64) :=
  TabOK_mk C bits_Sub64.t Tryd.func73 (by kernel_rfl) true 60 (by
    rintro ⟨a, ⟨⟩⟩ h
    exact (bits_Len64.r a).trans (bits_Len64.p (fun q => (.int .i64 (q) : Value)) a (bits_Len64.okt a)))

def bits_LeadingZeros64.c0 {γ : Type} (k : Int → γ) (a : Int) (t1 : Int) (t2 : Int) : γ := k (t2)
def bits_LeadingZeros64.c {γ : Type} (k : Int → γ) (a : Int) : γ := let t1 := bits_Len64 a; let t2 := IntKind.i64.wrap (64 - t1); bits_LeadingZeros64.c0 k a t1 t2
def bits_LeadingZeros64 (a : Int) : Int := bits_LeadingZeros64.c id a
def bits_LeadingZeros64.F : FV := mkF (cP (cI .u64) cU) (fun _ => true) (fun | (a, ()) => .int .i64 (bits_LeadingZeros64 a))
def L_bits_LeadingZeros64 : TL := (72, bits_LeadingZeros64.F) :: L_bits_Len64
theorem bits_LeadingZeros64.p0 {γ : Type} (k : Int → γ) (a : Int) (t1 : Int) (t2 : Int) : bits_LeadingZeros64.c0 k a t1 t2 = k (bits_LeadingZeros64.c0 id a t1 t2) := by
  unfold bits_LeadingZeros64.c0; (repeat' (first | (apply pc k) | (exact rfl)))
theorem bits_LeadingZeros64.p {γ : Type} (k : Int → γ) (a : Int) : bits_LeadingZeros64.c k a = k (bits_LeadingZeros64 a) :=
  let t1 := bits_Len64 a; let t2 := IntKind.i64.wrap (64 - t1); bits_LeadingZeros64.p0 k a t1 t2
theorem bits_LeadingZeros64.r (a : Int) : runF P G (tab L_bits_Len64) { merge := true } 60 Tryd.f72 [.int .u64 a] = bits_LeadingZeros64.c (fun q => some (.int .i64 (q) : Value)) a := by kernel_rfl
theorem bits_LeadingZeros64.t : TabOK P G (tab L_bits_LeadingZeros64) :=
  TabOK_mk C bits_Len64.t Tryd.func72 (by kernel_rfl) true 60 (by
    rintro ⟨a, ⟨⟩⟩ h
    exact (bits_LeadingZeros64.r a).trans (bits_LeadingZeros64.p (fun q => some (.int .i64 (q) : Value)) a))

def bits_Div64.val (q : Int × Int) : Value := .tuple #[.int .u64 (q).1, .int .u64 (q).2]
def bits_Div64.h : List (Nat × List Nat × Nat) := [(17, [2, 8, 9, 10, 11, 13, 14, 15, 16], 0), (24, [2, 8, 9, 10, 14, 15, 16, 17, 18], 0)]
def bits_Div64.e0 (q : Int × Int × Int × Int × Int × Int × Int × Int × Int) : St := { tmps := [.unk, .unk, .val (.int .u64 (q).1), .unk, .unk, .unk, .unk, .unk, .val (.int .u64 (q).2.1), .val (.int .u64 (q).2.2.1), .val (.int .u64 (q).2.2.2.1), .val (.int .u64 (q).2.2.2.2.1), .unk, .val (.int .u64 (q).2.2.2.2.2.1), .val (.int .u64 (q).2.2.2.2.2.2.1), .val (.int .u64 (q).2.2.2.2.2.2.2.1), .val (.int .u64 (q).2.2.2.2.2.2.2.2), .unk, .unk, .unk, .unk, .unk, .unk, .unk, .unk, .unk, .unk, .unk, .unk, .unk, .unk, .unk, .unk, .unk, .unk, .unk, .unk, .unk, .unk, .unk, .unk, .unk, .unk, .unk, .unk, .unk, .unk, .unk, .unk, .unk, .unk, .unk, .unk, .unk, .unk, .unk, .unk, .unk, .unk, .unk, .unk, .unk, .unk, .unk, .unk, .unk, .unk, .unk, .unk, .unk, .unk, .unk, .unk, .unk, .unk, .unk, .unk, .unk, .unk, .unk, .unk, .unk, .unk, .unk, .unk, .unk, .unk, .unk, .unk, .unk, .unk, .unk, .unk, .unk, .unk, .unk, .unk, .unk, .unk, .unk, .unk, .unk, .unk, .unk, .unk, .unk, .unk, .unk, .unk, .unk, .unk, .unk, .unk, .unk, .unk, .unk, .unk, .unk, .unk, .unk, .unk, .unk, .unk, .unk, .unk, .unk, .unk, .unk, .unk, .unk, .unk, .unk, .unk, .unk, .unk], blks := [], saved := [] }
noncomputable def bits_Div64.B0 : Code := loopAt [1, 1, 1, 1, 1, 1, 1, 1, 1, 1, 1, 1, 1, 1, 0, 0] (fbody Tryd.f71)
def bits_Div64.e1 (q : Int × Int × Int × Int × Int × Int × Int × Int × Int) : St := { tmps := [.unk, .unk, .val (.int .u64 (q).1), .unk, .unk, .unk, .unk, .unk, .val (.int .u64 (q).2.1), .val (.int .u64 (q).2.2.1), .val (.int .u64 (q).2.2.2.1), .unk, .unk, .unk, .val (.int .u64 (q).2.2.2.2.1), .val (.int .u64 (q).2.2.2.2.2.1), .val (.int .u64 (q).2.2.2.2.2.2.1), .val (.int .u64 (q).2.2.2.2.2.2.2.1), .val (.int .u64 (q).2.2.2.2.2.2.2.2), .unk, .unk, .unk, .unk, .unk, .unk, .unk, .unk, .unk, .unk, .unk, .unk, .unk, .unk, .unk, .unk, .unk, .unk, .unk, .unk, .unk, .unk, .unk, .unk, .unk, .unk, .unk, .unk, .unk, .unk, .unk, .unk, .unk, .unk, .unk, .unk, .unk, .unk, .unk, .unk, .unk, .unk, .unk, .unk, .unk, .unk, .unk, .unk, .unk, .unk, .unk, .unk, .unk, .unk, .unk, .unk, .unk, .unk, .unk, .unk, .unk, .unk, .unk, .unk, .unk, .unk, .unk, .unk, .unk, .unk, .unk, .unk, .unk, .unk, .unk, .unk, .unk, .unk, .unk, .unk, .unk, .unk, .unk, .unk, .unk, .unk, .unk, .unk, .unk, .unk, .unk, .unk, .unk, .unk, .unk, .unk, .unk, .unk, .unk, .unk, .unk, .unk, .unk, .unk, .unk, .unk, .unk, .unk, .unk, .unk, .unk, .unk, .unk, .unk, .unk, .unk], blks := [], saved := [] }
noncomputable def bits_Div64.B1 : Code := loopAt [1, 1, 1, 1, 1, 1, 1, 1, 1, 1, 1, 1, 1, 1, 1, 1, 1, 1, 0, 0] (fbody Tryd.f71)
noncomputable def bits_Div64.H (F0 F1 : LSum) : Heads := { heads := bits_Div64.h, merge := true, sums := [(17, F0), (24, F1)] }
noncomputable def bits_Div64.H0  : Heads := { heads := bits_Div64.h, merge := true, sums := [] }
noncomputable def bits_Div64.H1  : Heads := { heads := bits_Div64.h, merge := true, sums := [] }
noncomputable def bits_Div64.K0 (F0 F1 : LSum) : Xt → St → Option Value := kAt P G (tab L_bits_LeadingZeros64) (bits_Div64.H F0 F1) [1, 1, 1, 1, 1, 1, 1, 1, 1, 1, 1, 1, 1, 1, 0, 0] 60 (fbody Tryd.f71) (retK P G Tryd.f71)
noncomputable def bits_Div64.K1 (F0 F1 : LSum) : Xt → St → Option Value := kAt P G (tab L_bits_LeadingZeros64) (bits_Div64.H F0 F1) [1, 1, 1, 1, 1, 1, 1, 1, 1, 1, 1, 1, 1, 1, 1, 1, 1, 1, 0, 0] 60 (fbody Tryd.f71) (retK P G Tryd.f71)
def bits_Div64.l0.c0 {γ : Type} (k0 : Int × Int × Int × Int × Int × Int × Int × Int × Int → Option γ) (k1 : Int × Int × Int × Int × Int × Int × Int × Int × Int → Option γ) (k : Int × Int → Option γ) (s2 : Int) (s8 : Int) (s9 : Int) (s10 : Int) (s11 : Int) (s13 : Int) (s14 : Int) (s15 : Int) (s16 : Int) (t1 : Int) (t2 : Int) (t3 : Int) (t4 : Int) (t5 : Int) (t6 : Int) (t7 : Int) (t8 : Int) (t9 : Int) (t10 : Int) (t11 : Int) (t12 : Int) (t13 : Int) (t14 : Int) (t15 : Int) (t16 : Int) (t17 : Int) : Option γ := bif decide (s15 ≥ 4294967296)
  then bif decide (t1 ≥ 4294967296)
   then bif !decide (s9 = 0)
    then k1 (s2, s8, s9, s10, s14, t2, t9, t6, t7)
    else none
   else k0 (s2, s8, s9, s10, s11, s13, s14, t2, t1)
  else bif decide (t10 > t12)
   then bif decide (t1 ≥ 4294967296)
    then bif !decide (s9 = 0)
     then k1 (s2, s8, s9, s10, s14, t2, t9, t6, t7)
     else none
    else k0 (s2, s8, s9, s10, s11, s13, s14, t2, t1)
   else bif !decide (s9 = 0)
    then k1 (s2, s8, s9, s10, s14, s15, t17, t14, t15)
    else none
def bits_Div64.l0.c {γ : Type} (k0 : Int × Int × Int × Int × Int × Int × Int × Int × Int → Option γ) (k1 : Int × Int × Int × Int × Int × Int × Int × Int × Int → Option γ) (k : Int × Int → Option γ) (s2 : Int) (s8 : Int) (s9 : Int) (s10 : Int) (s11 : Int) (s13 : Int) (s14 : Int) (s15 : Int) (s16 : Int) : Option γ := let t1 := IntKind.u64.wrap (s16 + s9); let t2 := IntKind.u64.wrap (s15 - 1); let t3 := IntKind.u64.wrap (s11 * 4294967296); let t4 := IntKind.u64.wrap (t3 + s13); let t5 := IntKind.u64.wrap (t2 * s2); let t6 := IntKind.u64.wrap (t4 - t5); let t7 := IntKind.u64.wrap (t6.tdiv s9); let t8 := IntKind.u64.wrap (t7 * s9); let t9 := IntKind.u64.wrap (t6 - t8); let t10 := IntKind.u64.wrap (s15 * s10); let t11 := IntKind.u64.wrap (4294967296 * s16); let t12 := IntKind.u64.wrap (t11 + s13); let t13 := IntKind.u64.wrap (s15 * s2); let t14 := IntKind.u64.wrap (t4 - t13); let t15 := IntKind.u64.wrap (t14.tdiv s9); let t16 := IntKind.u64.wrap (t15 * s9); let t17 := IntKind.u64.wrap (t14 - t16); bits_Div64.l0.c0 k0 k1 k s2 s8 s9 s10 s11 s13 s14 s15 s16 t1 t2 t3 t4 t5 t6 t7 t8 t9 t10 t11 t12 t13 t14 t15 t16 t17
def bits_Div64.l1.c0 {γ : Type} (k1 : Int × Int × Int × Int × Int × Int × Int × Int × Int → Option γ) (k : Int × Int → Option γ) (s2 : Int) (s8 : Int) (s9 : Int) (s10 : Int) (s14 : Int) (s15 : Int) (s16 : Int) (s17 : Int) (s18 : Int) (t1 : Int) (t2 : Int) (t3 : Int) (t4 : Int) (t5 : Int) (t6 : Int) (t7 : Int) (t8 : Int) (t9 : Int) (t10 : Int) (t11 : Int) (t12 : Int) (t13 : Int) (t14 : Int) : Option γ := bif decide (s18 ≥ 4294967296)
  then bif decide (t1 ≥ 4294967296)
   then bif !decide (s8 < 0)
    then k (t4, t8.fdiv (2 ^ min s8.toNat IntKind.u64.bits))
    else none
   else k1 (s2, s8, s9, s10, s14, s15, t1, s17, t3)
  else bif decide (t9 > t11)
   then bif decide (t1 ≥ 4294967296)
    then bif !decide (s8 < 0)
     then k (t4, t8.fdiv (2 ^ min s8.toNat IntKind.u64.bits))
     else none
    else k1 (s2, s8, s9, s10, s14, s15, t1, s17, t3)
   else bif !decide (s8 < 0)
    then k (t12, t14.fdiv (2 ^ min s8.toNat IntKind.u64.bits))
    else none
def bits_Div64.l1.c {γ : Type} (k1 : Int × Int × Int × Int × Int × Int × Int × Int × Int → Option γ) (k : Int × Int → Option γ) (s2 : Int) (s8 : Int) (s9 : Int) (s10 : Int) (s14 : Int) (s15 : Int) (s16 : Int) (s17 : Int) (s18 : Int) : Option γ := let t1 := IntKind.u64.wrap (s16 + s9); let t2 := IntKind.u64.wrap (s15 * 4294967296); let t3 := IntKind.u64.wrap (s18 - 1); let t4 := IntKind.u64.wrap (t2 + t3); let t5 := IntKind.u64.wrap (s17 * 4294967296); let t6 := IntKind.u64.wrap (t5 + s14); let t7 := IntKind.u64.wrap (t3 * s2); let t8 := IntKind.u64.wrap (t6 - t7); let t9 := IntKind.u64.wrap (s18 * s10); let t10 := IntKind.u64.wrap (4294967296 * s16); let t11 := IntKind.u64.wrap (t10 + s14); let t12 := IntKind.u64.wrap (t2 + s18); let t13 := IntKind.u64.wrap (s18 * s2); let t14 := IntKind.u64.wrap (t6 - t13); bits_Div64.l1.c0 k1 k s2 s8 s9 s10 s14 s15 s16 s17 s18 t1 t2 t3 t4 t5 t6 t7 t8 t9 t10 t11 t12 t13 t14
def bits_Div64.c0 {γ : Type} (k0 : Int × Int × Int × Int × Int × Int × Int × Int × Int → Option γ) (k : Int × Int → Option γ) (a : Int) (b : Int) (c : Int) (t1 : Int) (t2 : Int) (t3 : Int) (t4 : Int) (t5 : Int) (t6 : Int) (t7 : Int) (t8 : Int) (t9 : Int) (t10 : Int) : Option γ := bif c == 0
  then none
  else bif decide (c ≤ a)
   then none
   else bif a == 0
    then bif !decide (c = 0)
     then bif !decide (c = 0)
      then k (t1, b.tmod c)
      else none
     else none
    else bif !decide (t3 < 0)
     then bif !decide (t3 < 0)
      then bif !decide (t4 < 0)
       then bif !decide (t3 < 0)
        then bif !decide (t5.fdiv (2 ^ min (Int.toNat 32) IntKind.u64.bits) = 0)
         then k0 (t5, t3, t5.fdiv (2 ^ min (Int.toNat 32) IntKind.u64.bits), andI IntKind.u64 t5 4294967295, orI IntKind.u64 t6 (b.fdiv (2 ^ min (IntKind.u64.wrap (64 - IntKind.u64.wrap (bits_LeadingZeros64 c))).toNat IntKind.u64.bits)), t7.fdiv (2 ^ min (Int.toNat 32) IntKind.u64.bits), andI IntKind.u64 t7 4294967295, t8, t10)
         else none
        else none
       else none
      else none
     else none
def bits_Div64.c {γ : Type} (k0 : Int × Int × Int × Int × Int × Int × Int × Int × Int → Option γ) (k : Int × Int → Option γ) (a : Int) (b : Int) (c : Int) : Option γ := let t1 := IntKind.u64.wrap (b.tdiv c); let t2 := bits_LeadingZeros64 c; let t3 := IntKind.u64.wrap t2; let t4 := IntKind.u64.wrap (64 - t3); let t5 := IntKind.u64.wrap (c * 2 ^ min (IntKind.u64.wrap (bits_LeadingZeros64 c)).toNat IntKind.u64.bits); let t6 := IntKind.u64.wrap (a * 2 ^ min (IntKind.u64.wrap (bits_LeadingZeros64 c)).toNat IntKind.u64.bits); let t7 := IntKind.u64.wrap (b * 2 ^ min (IntKind.u64.wrap (bits_LeadingZeros64 c)).toNat IntKind.u64.bits); let t8 := IntKind.u64.wrap ((orI IntKind.u64 t6 (b.fdiv (2 ^ min (IntKind.u64.wrap (64 - IntKind.u64.wrap (bits_LeadingZeros64 c))).toNat IntKind.u64.bits))).tdiv (t5.fdiv (2 ^ min (Int.toNat 32) IntKind.u64.bits))); let t9 := IntKind.u64.wrap (t8 * t5.fdiv (2 ^ min (Int.toNat 32) IntKind.u64.bits)); let t10 := IntKind.u64.wrap (orI IntKind.u64 t6 (b.fdiv (2 ^ min (IntKind.u64.wrap (64 - IntKind.u64.wrap (bits_LeadingZeros64 c))).toNat IntKind.u64.bits)) - t9); bits_Div64.c0 k0 k a b c t1 t2 t3 t4 t5 t6 t7 t8 t9 t10
def bits_Div64.L1 (N : Nat)  : Nat → Int × Int × Int × Int × Int × Int × Int × Int × Int → Option (Int × Int)
  | 0, _ => none
  | m + 1, q => bits_Div64.l1.c (bits_Div64.L1 N m) some (q).1 (q).2.1 (q).2.2.1 (q).2.2.2.1 (q).2.2.2.2.1 (q).2.2.2.2.2.1 (q).2.2.2.2.2.2.1 (q).2.2.2.2.2.2.2.1 (q).2.2.2.2.2.2.2.2
def bits_Div64.L0 (N : Nat) (l1 : Int × Int × Int × Int × Int × Int × Int × Int × Int → Option (Int × Int)) : Nat → Int × Int × Int × Int × Int × Int × Int × Int × Int → Option (Int × Int)
  | 0, _ => none
  | m + 1, q => bits_Div64.l0.c (bits_Div64.L0 N l1 m) l1 some (q).1 (q).2.1 (q).2.2.1 (q).2.2.2.1 (q).2.2.2.2.1 (q).2.2.2.2.2.1 (q).2.2.2.2.2.2.1 (q).2.2.2.2.2.2.2.1 (q).2.2.2.2.2.2.2.2
def bits_Div64.o (N : Nat) (a : Int) (b : Int) (c : Int) : Option (Int × Int) := bits_Div64.c (bits_Div64.L0 N (bits_Div64.L1 N  N) N) some a b c
noncomputable def bits_Div64.S1 (N : Nat) : LSum := sumN P G (tab L_bits_LeadingZeros64) (bits_Div64.H1 ) 60 bits_Div64.B1 N
noncomputable def bits_Div64.S0 (N : Nat) : LSum := sumN P G (tab L_bits_LeadingZeros64) (bits_Div64.H0 ) 60 bits_Div64.B0 N
theorem bits_Div64.l0.p0 {γ δ : Type} (f : γ → δ) (k0 : Int × Int × Int × Int × Int × Int × Int × Int × Int → Option γ) (k1 : Int × Int × Int × Int × Int × Int × Int × Int × Int → Option γ) (k : Int × Int → Option γ) (s2 : Int) (s8 : Int) (s9 : Int) (s10 : Int) (s11 : Int) (s13 : Int) (s14 : Int) (s15 : Int) (s16 : Int) (t1 : Int) (t2 : Int) (t3 : Int) (t4 : Int) (t5 : Int) (t6 : Int) (t7 : Int) (t8 : Int) (t9 : Int) (t10 : Int) (t11 : Int) (t12 : Int) (t13 : Int) (t14 : Int) (t15 : Int) (t16 : Int) (t17 : Int) : bits_Div64.l0.c0 (fun q => (k0 q).map f) (fun q => (k1 q).map f) (fun q => (k q).map f) s2 s8 s9 s10 s11 s13 s14 s15 s16 t1 t2 t3 t4 t5 t6 t7 t8 t9 t10 t11 t12 t13 t14 t15 t16 t17 = (bits_Div64.l0.c0 k0 k1 k s2 s8 s9 s10 s11 s13 s14 s15 s16 t1 t2 t3 t4 t5 t6 t7 t8 t9 t10 t11 t12 t13 t14 t15 t16 t17).map f := by
  unfold bits_Div64.l0.c0; (repeat' (first | (apply pm f) | (exact rfl)))
theorem bits_Div64.l0.p {γ δ : Type} (f : γ → δ) (k0 : Int × Int × Int × Int × Int × Int × Int × Int × Int → Option γ) (k1 : Int × Int × Int × Int × Int × Int × Int × Int × Int → Option γ) (k : Int × Int → Option γ) (s2 : Int) (s8 : Int) (s9 : Int) (s10 : Int) (s11 : Int) (s13 : Int) (s14 : Int) (s15 : Int) (s16 : Int) : bits_Div64.l0.c (fun q => (k0 q).map f) (fun q => (k1 q).map f) (fun q => (k q).map f) s2 s8 s9 s10 s11 s13 s14 s15 s16 = (bits_Div64.l0.c k0 k1 k s2 s8 s9 s10 s11 s13 s14 s15 s16).map f :=
  let t1 := IntKind.u64.wrap (s16 + s9); let t2 := IntKind.u64.wrap (s15 - 1); let t3 := IntKind.u64.wrap (s11 * 4294967296); let t4 := IntKind.u64.wrap (t3 + s13); let t5 := IntKind.u64.wrap (t2 * s2); let t6 := IntKind.u64.wrap (t4 - t5); let t7 := IntKind.u64.wrap (t6.tdiv s9); let t8 := IntKind.u64.wrap (t7 * s9); let t9 := IntKind.u64.wrap (t6 - t8); let t10 := IntKind.u64.wrap (s15 * s10); let t11 := IntKind.u64.wrap (4294967296 * s16); let t12 := IntKind.u64.wrap (t11 + s13); let t13 := IntKind.u64.wrap (s15 * s2); let t14 := IntKind.u64.wrap (t4 - t13); let t15 := IntKind.u64.wrap (t14.tdiv s9); let t16 := IntKind.u64.wrap (t15 * s9); let t17 := IntKind.u64.wrap (t14 - t16); bits_Div64.l0.p0 f k0 k1 k s2 s8 s9 s10 s11 s13 s14 s15 s16 t1 t2 t3 t4 t5 t6 t7 t8 t9 t10 t11 t12 t13 t14 t15 t16 t17
theorem bits_Div64.l1.p0 {γ δ : Type} (f : γ → δ) (k1 : Int × Int × Int × Int × Int × Int × Int × Int × Int → Option γ) (k : Int × Int → Option γ) (s2 : Int) (s8 : Int) (s9 : Int) (s10 : Int) (s14 : Int) (s15 : Int) (s16 : Int) (s17 : Int) (s18 : Int) (t1 : Int) (t2 : Int) (t3 : Int) (t4 : Int) (t5 : Int) (t6 : Int) (t7 : Int) (t8 : Int) (t9 : Int) (t10 : Int) (t11 : Int) (t12 : Int) (t13 : Int) (t14 : Int) : bits_Div64.l1.c0 (fun q => (k1 q).map f) (fun q => (k q).map f) s2 s8 s9 s10 s14 s15 s16 s17 s18 t1 t2 t3 t4 t5 t6 t7 t8 t9 t10 t11 t12 t13 t14 = (bits_Div64.l1.c0 k1 k s2 s8 s9 s10 s14 s15 s16 s17 s18 t1 t2 t3 t4 t5 t6 t7 t8 t9 t10 t11 t12 t13 t14).map f := by
  unfold bits_Div64.l1.c0; (repeat' (first | (apply pm f) | (exact rfl)))
theorem bits_Div64.l1.p {γ δ : Type} (f : γ → δ) (k1 : Int × Int × Int × Int × Int × Int × Int × Int × Int → Option γ) (k : Int × Int → Option γ) (s2 : Int) (s8 : Int) (s9 : Int) (s10 : Int) (s14 : Int) (s15 : Int) (s16 : Int) (s17 : Int) (s18 : Int) : bits_Div64.l1.c (fun q => (k1 q).map f) (fun q => (k q).map f) s2 s8 s9 s10 s14 s15 s16 s17 s18 = (bits_Div64.l1.c k1 k s2 s8 s9 s10 s14 s15 s16 s17 s18).map f :=
  let t1 := IntKind.u64.wrap (s16 + s9); let t2 := IntKind.u64.wrap (s15 * 4294967296); let t3 := IntKind.u64.wrap (s18 - 1); let t4 := IntKind.u64.wrap (t2 + t3); let t5 := IntKind.u64.wrap (s17 * 4294967296); let t6 := IntKind.u64.wrap (t5 + s14); let t7 := IntKind.u64.wrap (t3 * s2); let t8 := IntKind.u64.wrap (t6 - t7); let t9 := IntKind.u64.wrap (s18 * s10); let t10 := IntKind.u64.wrap (4294967296 * s16); let t11 := IntKind.u64.wrap (t10 + s14); let t12 := IntKind.u64.wrap (t2 + s18); let t13 := IntKind.u64.wrap (s18 * s2); let t14 := IntKind.u64.wrap (t6 - t13); bits_Div64.l1.p0 f k1 k s2 s8 s9 s10 s14 s15 s16 s17 s18 t1 t2 t3 t4 t5 t6 t7 t8 t9 t10 t11 t12 t13 t14
theorem bits_Div64.p0 {γ δ : Type} (f : γ → δ) (k0 : Int × Int × Int × Int × Int × Int × Int × Int × Int → Option γ) (k : Int × Int → Option γ) (a : Int) (b : Int) (c : Int) (t1 : Int) (t2 : Int) (t3 : Int) (t4 : Int) (t5 : Int) (t6 : Int) (t7 : Int) (t8 : Int) (t9 : Int) (t10 : Int) : bits_Div64.c0 (fun q => (k0 q).map f) (fun q => (k q).map f) a b c t1 t2 t3 t4 t5 t6 t7 t8 t9 t10 = (bits_Div64.c0 k0 k a b c t1 t2 t3 t4 t5 t6 t7 t8 t9 t10).map f := by
  unfold bits_Div64.c0; (repeat' (first | (apply pm f) | (exact rfl)))
theorem bits_Div64.p {γ δ : Type} (f : γ → δ) (k0 : Int × Int × Int × Int × Int × Int × Int × Int × Int → Option γ) (k : Int × Int → Option γ) (a : Int) (b : Int) (c : Int) : bits_Div64.c (fun q => (k0 q).map f) (fun q => (k q).map f) a b c = (bits_Div64.c k0 k a b c).map f :=
  let t1 := IntKind.u64.wrap (b.tdiv c); let t2 := bits_LeadingZeros64 c; let t3 := IntKind.u64.wrap t2; let t4 := IntKind.u64.wrap (64 - t3); let t5 := IntKind.u64.wrap (c * 2 ^ min (IntKind.u64.wrap (bits_LeadingZeros64 c)).toNat IntKind.u64.bits); let t6 := IntKind.u64.wrap (a * 2 ^ min (IntKind.u64.wrap (bits_LeadingZeros64 c)).toNat IntKind.u64.bits); let t7 := IntKind.u64.wrap (b * 2 ^ min (IntKind.u64.wrap (bits_LeadingZeros64 c)).toNat IntKind.u64.bits); let t8 := IntKind.u64.wrap ((orI IntKind.u64 t6 (b.fdiv (2 ^ min (IntKind.u64.wrap (64 - IntKind.u64.wrap (bits_LeadingZeros64 c))).toNat IntKind.u64.bits))).tdiv (t5.fdiv (2 ^ min (Int.toNat 32) IntKind.u64.bits))); let t9 := IntKind.u64.wrap (t8 * t5.fdiv (2 ^ min (Int.toNat 32) IntKind.u64.bits)); let t10 := IntKind.u64.wrap (orI IntKind.u64 t6 (b.fdiv (2 ^ min (IntKind.u64.wrap (64 - IntKind.u64.wrap (bits_LeadingZeros64 c))).toNat IntKind.u64.bits)) - t9); bits_Div64.p0 f k0 k a b c t1 t2 t3 t4 t5 t6 t7 t8 t9 t10
theorem bits_Div64.S1.ok (N : Nat) : LoopsOK P G (bits_Div64.H1 ).sums bits_Div64.B1 := by
  refine LoopsOK_code fun i hi F hF => ?_
  have hlen : (loopsOf bits_Div64.B1).length = 0 := by kernel_rfl
  rw [hlen] at hi
  omega

theorem bits_Div64.S1.snd (N : Nat) : SoundL P G bits_Div64.B1 (bits_Div64.S1 N) := sumN_sound C.mixed C.names bits_LeadingZeros64.t (bits_Div64.S1.ok N) N
theorem bits_Div64.S0.ok (N : Nat) : LoopsOK P G (bits_Div64.H0 ).sums bits_Div64.B0 := by
  refine LoopsOK_code fun i hi F hF => ?_
  have hlen : (loopsOf bits_Div64.B0).length = 0 := by kernel_rfl
  rw [hlen] at hi
  omega

theorem bits_Div64.S0.snd (N : Nat) : SoundL P G bits_Div64.B0 (bits_Div64.S0 N) := sumN_sound C.mixed C.names bits_LeadingZeros64.t (bits_Div64.S0.ok N) N
theorem bits_Div64.l0.r (F0 F1 G0 G1 : LSum) (s2 : Int) (s8 : Int) (s9 : Int) (s10 : Int) (s11 : Int) (s13 : Int) (s14 : Int) (s15 : Int) (s16 : Int) : ex P G (tab L_bits_LeadingZeros64) (bits_Div64.H0 ) 60 bits_Div64.B0 (bits_Div64.e0 (s2, s8, s9, s10, s11, s13, s14, s15, s16)) (roundK (bits_Div64.H0 ) bits_Div64.B0 G0 (bits_Div64.K0 F0 F1)) = bits_Div64.l0.c (fun q => G0.run (bits_Div64.e0 q) (bits_Div64.K0 F0 F1)) (fun q => F1.run (bits_Div64.e1 q) (bits_Div64.K1 F0 F1)) (fun q => some (bits_Div64.val q)) s2 s8 s9 s10 s11 s13 s14 s15 s16 := by kernel_rfl
theorem bits_Div64.l1.r (F0 F1 G0 G1 : LSum) (s2 : Int) (s8 : Int) (s9 : Int) (s10 : Int) (s14 : Int) (s15 : Int) (s16 : Int) (s17 : Int) (s18 : Int) : ex P G (tab L_bits_LeadingZeros64) (bits_Div64.H1 ) 60 bits_Div64.B1 (bits_Div64.e1 (s2, s8, s9, s10, s14, s15, s16, s17, s18)) (roundK (bits_Div64.H1 ) bits_Div64.B1 G1 (bits_Div64.K1 F0 F1)) = bits_Div64.l1.c (fun q => G1.run (bits_Div64.e1 q) (bits_Div64.K1 F0 F1)) (fun q => some (bits_Div64.val q)) s2 s8 s9 s10 s14 s15 s16 s17 s18 := by kernel_rfl
theorem bits_Div64.r (F0 F1 : LSum) (a : Int) (b : Int) (c : Int) : runF P G (tab L_bits_LeadingZeros64) (bits_Div64.H F0 F1) 60 Tryd.f71 [.int .u64 a, .int .u64 b, .int .u64 c] = bits_Div64.c (fun q => F0.run (bits_Div64.e0 q) (bits_Div64.K0 F0 F1)) (fun q => some (bits_Div64.val q)) a b c := by kernel_rfl
theorem bits_Div64.L1.ok (N : Nat) (F0 F1 : LSum)   : ∀ m q, (sumN P G (tab L_bits_LeadingZeros64) (bits_Div64.H1 ) 60 bits_Div64.B1 m).run (bits_Div64.e1 q) (bits_Div64.K1 F0 F1) = (bits_Div64.L1 N  m q).map bits_Div64.val
  | 0, q => rfl
  | m + 1, q => by
    have ih := bits_Div64.L1.ok N F0 F1   m
    refine (sumN_run (n := m) rfl).trans ((bits_Div64.l1.r F0 F1 noSum (sumN P G (tab L_bits_LeadingZeros64) (bits_Div64.H1 ) 60 bits_Div64.B1 m) (q).1 (q).2.1 (q).2.2.1 (q).2.2.2.1 (q).2.2.2.2.1 (q).2.2.2.2.2.1 (q).2.2.2.2.2.2.1 (q).2.2.2.2.2.2.2.1 (q).2.2.2.2.2.2.2.2).trans ?_)
    refine Eq.trans ?_ (bits_Div64.l1.p bits_Div64.val (bits_Div64.L1 N m) some (q).1 (q).2.1 (q).2.2.1 (q).2.2.2.1 (q).2.2.2.2.1 (q).2.2.2.2.2.1 (q).2.2.2.2.2.2.1 (q).2.2.2.2.2.2.2.1 (q).2.2.2.2.2.2.2.2)
    have e1 : (fun q => (sumN P G (tab L_bits_LeadingZeros64) (bits_Div64.H1 ) 60 bits_Div64.B1 m).run (bits_Div64.e1 q) (bits_Div64.K1 F0 F1)) = (fun q => ((bits_Div64.L1 N m) q).map bits_Div64.val) := funext ih
    rw [e1]; rfl

theorem bits_Div64.L0.ok (N : Nat) (F0 F1 : LSum) (l1 : Int × Int × Int × Int × Int × Int × Int × Int × Int → Option (Int × Int)) (h1 : ∀ q, F1.run (bits_Div64.e1 q) (bits_Div64.K1 F0 F1) = (l1 q).map bits_Div64.val) : ∀ m q, (sumN P G (tab L_bits_LeadingZeros64) (bits_Div64.H0 ) 60 bits_Div64.B0 m).run (bits_Div64.e0 q) (bits_Div64.K0 F0 F1) = (bits_Div64.L0 N l1 m q).map bits_Div64.val
  | 0, q => rfl
  | m + 1, q => by
    have ih := bits_Div64.L0.ok N F0 F1 l1 h1 m
    refine (sumN_run (n := m) rfl).trans ((bits_Div64.l0.r F0 F1 (sumN P G (tab L_bits_LeadingZeros64) (bits_Div64.H0 ) 60 bits_Div64.B0 m) noSum (q).1 (q).2.1 (q).2.2.1 (q).2.2.2.1 (q).2.2.2.2.1 (q).2.2.2.2.2.1 (q).2.2.2.2.2.2.1 (q).2.2.2.2.2.2.2.1 (q).2.2.2.2.2.2.2.2).trans ?_)
    refine Eq.trans ?_ (bits_Div64.l0.p bits_Div64.val (bits_Div64.L0 N l1 m) l1 some (q).1 (q).2.1 (q).2.2.1 (q).2.2.2.1 (q).2.2.2.2.1 (q).2.2.2.2.2.1 (q).2.2.2.2.2.2.1 (q).2.2.2.2.2.2.2.1 (q).2.2.2.2.2.2.2.2)
    have e0 : (fun q => (sumN P G (tab L_bits_LeadingZeros64) (bits_Div64.H0 ) 60 bits_Div64.B0 m).run (bits_Div64.e0 q) (bits_Div64.K0 F0 F1)) = (fun q => ((bits_Div64.L0 N l1 m) q).map bits_Div64.val) := funext ih
    have e1 : (fun q => F1.run (bits_Div64.e1 q) (bits_Div64.K1 F0 F1)) = (fun q => (l1 q).map bits_Div64.val) := funext h1
    rw [e0, e1]; rfl

theorem bits_Div64.q (N : Nat) (a : Int) (b : Int) (c : Int) : runF P G (tab L_bits_LeadingZeros64) (bits_Div64.H (bits_Div64.S0 N) (bits_Div64.S1 N)) 60 Tryd.f71 [.int .u64 a, .int .u64 b, .int .u64 c] = (bits_Div64.o N a b c).map bits_Div64.val := by
  have hk1 := bits_Div64.L1.ok N (bits_Div64.S0 N) (bits_Div64.S1 N)   N
  have hk0 := bits_Div64.L0.ok N (bits_Div64.S0 N) (bits_Div64.S1 N) (bits_Div64.L1 N  N) hk1 N
  refine (bits_Div64.r (bits_Div64.S0 N) (bits_Div64.S1 N) a b c).trans ?_
  refine Eq.trans ?_ (bits_Div64.p bits_Div64.val (bits_Div64.L0 N (bits_Div64.L1 N  N) N) some a b c)
  have e0 : (fun q => (bits_Div64.S0 N).run (bits_Div64.e0 q) (bits_Div64.K0 (bits_Div64.S0 N) (bits_Div64.S1 N))) = (fun q => ((bits_Div64.L0 N (bits_Div64.L1 N  N) N) q).map bits_Div64.val) := funext hk0
  rw [e0]; rfl

theorem bits_Div64.lok (N : Nat) : LoopsOK P G (bits_Div64.H (bits_Div64.S0 N) (bits_Div64.S1 N)).sums (fbody Tryd.f71) := by
  refine LoopsOK_code fun i hi F hF => ?_
  have hlen : (loopsOf (fbody Tryd.f71)).length = 2 := by kernel_rfl
  rw [hlen] at hi
  match i, hi with
  | 0, _ => exact soundAt (B' := bits_Div64.B0) (by kernel_rfl) (by kernel_rfl) (bits_Div64.S0.snd N) hF
  | 1, _ => exact soundAt (B' := bits_Div64.B1) (by kernel_rfl) (by kernel_rfl) (bits_Div64.S1.snd N) hF
  | _ + 2, h => omega

def bits_Div64 (a : Int) (b : Int) (c : Int) : Int × Int := hide ((bits_Div64.o (8) a b c).getD (0, 0))
def bits_Div64.g (a : Int) (b : Int) (c : Int) : Bool := hide (bits_Div64.o (8) a b c).isSome
theorem bits_Div64.s (a : Int) (b : Int) (c : Int) (h : bits_Div64.g a b c = true) : bits_Div64.o (8) a b c = some (bits_Div64 a b c) := by
  unfold bits_Div64.g at h; unfold bits_Div64; simp only [hide_eq] at h ⊢; revert h; cases bits_Div64.o (8) a b c <;> simp
def bits_Div64.F : FV := mkF (cP (cI .u64) (cP (cI .u64) (cP (cI .u64) cU))) (fun | (a, (b, (c, ()))) => bits_Div64.g a b c) (fun | (a, (b, (c, ()))) => bits_Div64.val (bits_Div64 a b c))
def L_bits_Div64 : TL := (71, bits_Div64.F) :: L_bits_LeadingZeros64
theorem bits_Div64.t : TabOK P G (tab L_bits_Div64) :=
  TabOK_mkH C bits_LeadingZeros64.t Tryd.func71 (by kernel_rfl) (fun | (_, (_, (_, ()))) => bits_Div64.H (bits_Div64.S0 (8)) (bits_Div64.S1 (8))) (by rintro ⟨a, ⟨b, ⟨c, ⟨⟩⟩⟩⟩; exact bits_Div64.lok _) 60 (by
    rintro ⟨a, ⟨b, ⟨c, ⟨⟩⟩⟩⟩ h
    exact (bits_Div64.q (8) a b c).trans (congrArg (Option.map bits_Div64.val) (bits_Div64.s a b c h)))

def bits_Rem64.c0 {γ : Type} (n : γ) (k : Int → γ) (a : Int) (b : Int) (c : Int) (t1 : Bool) (t2 : Int × Int) : γ := bif !decide (c = 0)
  then bif t1
   then k (t2.snd)
   else n
  else n
def bits_Rem64.c {γ : Type} (n : γ) (k : Int → γ) (a : Int) (b : Int) (c : Int) : γ := let t1 := bits_Div64.g (a.tmod c) b c; let t2 := bits_Div64 (a.tmod c) b c; bits_Rem64.c0 n k a b c t1 t2
def bits_Rem64.ok (a : Int) (b : Int) (c : Int) : Bool := bits_Rem64.c false (fun _ => true) a b c
def bits_Rem64 (a : Int) (b : Int) (c : Int) : Int := bits_Rem64.c (0) id a b c
def bits_Rem64.F : FV := mkF (cP (cI .u64) (cP (cI .u64) (cP (cI .u64) cU))) (fun | (a, (b, (c, ()))) => bits_Rem64.ok a b c) (fun | (a, (b, (c, ()))) => .int .u64 (bits_Rem64 a b c))
def L_bits_Rem64 : TL := (69, bits_Rem64.F) :: L_bits_Div64
theorem bits_Rem64.p0 {γ : Type} (k : Int → γ) (a : Int) (b : Int) (c : Int) (t1 : Bool) (t2 : Int × Int) : bits_Rem64.c0 false (fun _ => true) a b c t1 t2 = true → bits_Rem64.c0 none (fun q => some (k q)) a b c t1 t2 = some (k (bits_Rem64.c0 (0) id a b c t1 t2)) := by
  unfold bits_Rem64.c0; (repeat' (first | (apply pn k) | (exact pn_none _ _) | (exact pn_leaf k _)))
theorem bits_Rem64.p {γ : Type} (k : Int → γ) (a : Int) (b : Int) (c : Int) (h : bits_Rem64.ok a b c = true) : bits_Rem64.c none (fun q => some (k q)) a b c = some (k (bits_Rem64 a b c)) :=
  let t1 := bits_Div64.g (a.tmod c) b c; let t2 := bits_Div64 (a.tmod c) b c; bits_Rem64.p0 k a b c t1 t2 h
theorem bits_Rem64.r (a : Int) (b : Int) (c : Int) : runF P G (tab L_bits_Div64) { merge := true } 60 Tryd.f69 [.int .u64 a, .int .u64 b, .int .u64 c] = bits_Rem64.c none (fun q => some (.int .u64 (q) : Value)) a b c := by kernel_rfl
theorem bits_Rem64.t : TabOK P G (tab L_bits_Rem64) :=
  TabOK_mk C bits_Div64.t Tryd.func69 (by kernel_rfl) true 60 (by
    rintro ⟨a, ⟨b, ⟨c, ⟨⟩⟩⟩⟩ h
    exact (bits_Rem64.r a b c).trans (bits_Rem64.p (fun q => (.int .u64 (q) : Value)) a b c h))

end
end Go.Proofs.YtmadebejnhinoaaDoor.V


set_option linter.unusedVariables false
set_option linter.unusedSimpArgs false
namespace Go.Proofs.YtmadebejnhinoaaDoor.V
open Go Go.Wk
noncomputable section

def A.ival_none.c {γ : Type} (k : Bool → γ) (a0 : Int) (a1 : Int) : γ := k (decide (a0 > a1))
def A.ival_none (a0 : Int) (a1 : Int) : Bool := A.ival_none.c id a0 a1
def A.ival_none.F : FV := mkF (cP (cA (cP (cI .i64) (cP (cI .i64) cU))) cU) (fun _ => true) (fun | ((a0, (a1, ())), ()) => .bool (A.ival_none a0 a1))
def L_A.ival_none : TL := (56, A.ival_none.F) :: L_bits_Rem64
theorem A.ival_none.p {γ : Type} (k : Bool → γ) (a0 : Int) (a1 : Int) : A.ival_none.c k a0 a1 = k (A.ival_none a0 a1) := by
  unfold A.ival_none A.ival_none.c; (repeat' (first | (apply pc k) | (exact rfl)))
theorem A.ival_none.r (a0 : Int) (a1 : Int) : runF P G (tab L_bits_Rem64) { merge := true } 60 Tryd.f56 [.agg #[.int .i64 a0, .int .i64 a1]] = A.ival_none.c (fun q => some (.bool (q) : Value)) a0 a1 := by kernel_rfl
theorem A.ival_none.t : TabOK P G (tab L_A.ival_none) :=
  TabOK_mk C bits_Rem64.t Tryd.func56 (by kernel_rfl) true 60 (by
    rintro ⟨⟨a0, ⟨a1, ⟨⟩⟩⟩, ⟨⟩⟩ h
    exact (A.ival_none.r a0 a1).trans (A.ival_none.p (fun q => some (.bool (q) : Value)) a0 a1))

def A.ival_Has.c {γ : Type} (k : Bool → γ) (a0 : Int) (a1 : Int) (b : Int) : γ := bif decide (a0 ≤ b)
  then k (decide (b ≤ a1))
  else k (false)
def A.ival_Has (a0 : Int) (a1 : Int) (b : Int) : Bool := A.ival_Has.c id a0 a1 b
def A.ival_Has.F : FV := mkF (cP (cA (cP (cI .i64) (cP (cI .i64) cU))) (cP (cI .i64) cU)) (fun _ => true) (fun | ((a0, (a1, ())), (b, ())) => .bool (A.ival_Has a0 a1 b))
def L_A.ival_Has : TL := (36, A.ival_Has.F) :: L_A.ival_none
theorem A.ival_Has.p {γ : Type} (k : Bool → γ) (a0 : Int) (a1 : Int) (b : Int) : A.ival_Has.c k a0 a1 b = k (A.ival_Has a0 a1 b) := by
  unfold A.ival_Has A.ival_Has.c; (repeat' (first | (apply pc k) | (exact rfl)))
theorem A.ival_Has.r (a0 : Int) (a1 : Int) (b : Int) : runF P G (tab L_A.ival_none) { merge := true } 60 Tryd.f36 [.agg #[.int .i64 a0, .int .i64 a1], .int .i64 b] = A.ival_Has.c (fun q => some (.bool (q) : Value)) a0 a1 b := by kernel_rfl
theorem A.ival_Has.t : TabOK P G (tab L_A.ival_Has) :=
  TabOK_mk C A.ival_none.t Tryd.func36 (by kernel_rfl) true 60 (by
    rintro ⟨⟨a0, ⟨a1, ⟨⟩⟩⟩, ⟨b, ⟨⟩⟩⟩ h
    exact (A.ival_Has.r a0 a1 b).trans (A.ival_Has.p (fun q => some (.bool (q) : Value)) a0 a1 b))

def A.ival_Leq.c0 {γ : Type} (k : Bool → γ) (a0 : Int) (a1 : Int) (b0 : Int) (b1 : Int) (t1 : Bool) : γ := bif t1
  then k (true)
  else bif decide (b0 ≤ a0)
   then k (decide (a1 ≤ b1))
   else k (false)
def A.ival_Leq.c {γ : Type} (k : Bool → γ) (a0 : Int) (a1 : Int) (b0 : Int) (b1 : Int) : γ := let t1 := A.ival_none a0 a1; A.ival_Leq.c0 k a0 a1 b0 b1 t1
def A.ival_Leq (a0 : Int) (a1 : Int) (b0 : Int) (b1 : Int) : Bool := A.ival_Leq.c id a0 a1 b0 b1
def A.ival_Leq.F : FV := mkF (cP (cA (cP (cI .i64) (cP (cI .i64) cU))) (cP (cA (cP (cI .i64) (cP (cI .i64) cU))) cU)) (fun _ => true) (fun | ((a0, (a1, ())), ((b0, (b1, ())), ())) => .bool (A.ival_Leq a0 a1 b0 b1))
def L_A.ival_Leq : TL := (38, A.ival_Leq.F) :: L_A.ival_Has
theorem A.ival_Leq.p0 {γ : Type} (k : Bool → γ) (a0 : Int) (a1 : Int) (b0 : Int) (b1 : Int) (t1 : Bool) : A.ival_Leq.c0 k a0 a1 b0 b1 t1 = k (A.ival_Leq.c0 id a0 a1 b0 b1 t1) := by
  unfold A.ival_Leq.c0; (repeat' (first | (apply pc k) | (exact rfl)))
theorem A.ival_Leq.p {γ : Type} (k : Bool → γ) (a0 : Int) (a1 : Int) (b0 : Int) (b1 : Int) : A.ival_Leq.c k a0 a1 b0 b1 = k (A.ival_Leq a0 a1 b0 b1) :=
  let t1 := A.ival_none a0 a1; A.ival_Leq.p0 k a0 a1 b0 b1 t1
theorem A.ival_Leq.r (a0 : Int) (a1 : Int) (b0 : Int) (b1 : Int) : runF P G (tab L_A.ival_Has) { merge := true } 60 Tryd.f38 [.agg #[.int .i64 a0, .int .i64 a1], .agg #[.int .i64 b0, .int .i64 b1]] = A.ival_Leq.c (fun q => some (.bool (q) : Value)) a0 a1 b0 b1 := by kernel_rfl
theorem A.ival_Leq.t : TabOK P G (tab L_A.ival_Leq) :=
  TabOK_mk C A.ival_Has.t Tryd.func38 (by kernel_rfl) true 60 (by
    rintro ⟨⟨a0, ⟨a1, ⟨⟩⟩⟩, ⟨⟨b0, ⟨b1, ⟨⟩⟩⟩, ⟨⟩⟩⟩ h
    exact (A.ival_Leq.r a0 a1 b0 b1).trans (A.ival_Leq.p (fun q => some (.bool (q) : Value)) a0 a1 b0 b1))

def A.ival_Join.c0 {γ : Type} (k : Int × Int → γ) (a0 : Int) (a1 : Int) (b0 : Int) (b1 : Int) (t1 : Bool) (t2 : Bool) (t3 : Int) (t4 : Int) : γ := bif t1
  then bif t2
   then k (1, 0)
   else bif t1
    then k (b0, b1)
    else bif t2
     then k (a0, a1)
     else k (t3, t4)
  else bif t1
   then k (b0, b1)
   else bif t2
    then k (a0, a1)
    else k (t3, t4)
def A.ival_Join.c {γ : Type} (k : Int × Int → γ) (a0 : Int) (a1 : Int) (b0 : Int) (b1 : Int) : γ := let t1 := A.ival_none a0 a1; let t2 := A.ival_none b0 b1; let t3 := if b0 < a0 then b0 else a0; let t4 := if b1 > a1 then b1 else a1; A.ival_Join.c0 k a0 a1 b0 b1 t1 t2 t3 t4
def A.ival_Join (a0 : Int) (a1 : Int) (b0 : Int) (b1 : Int) : Int × Int := A.ival_Join.c id a0 a1 b0 b1
def A.ival_Join.F : FV := mkF (cP (cA (cP (cI .i64) (cP (cI .i64) cU))) (cP (cA (cP (cI .i64) (cP (cI .i64) cU))) cU)) (fun _ => true) (fun | ((a0, (a1, ())), ((b0, (b1, ())), ())) => .agg #[.int .i64 (A.ival_Join a0 a1 b0 b1).1, .int .i64 (A.ival_Join a0 a1 b0 b1).2])
def L_A.ival_Join : TL := (45, A.ival_Join.F) :: L_A.ival_Leq
theorem A.ival_Join.p0 {γ : Type} (k : Int × Int → γ) (a0 : Int) (a1 : Int) (b0 : Int) (b1 : Int) (t1 : Bool) (t2 : Bool) (t3 : Int) (t4 : Int) : A.ival_Join.c0 k a0 a1 b0 b1 t1 t2 t3 t4 = k (A.ival_Join.c0 id a0 a1 b0 b1 t1 t2 t3 t4) := by
  unfold A.ival_Join.c0; (repeat' (first | (apply pc k) | (exact rfl)))
theorem A.ival_Join.p {γ : Type} (k : Int × Int → γ) (a0 : Int) (a1 : Int) (b0 : Int) (b1 : Int) : A.ival_Join.c k a0 a1 b0 b1 = k (A.ival_Join a0 a1 b0 b1) :=
  let t1 := A.ival_none a0 a1; let t2 := A.ival_none b0 b1; let t3 := if b0 < a0 then b0 else a0; let t4 := if b1 > a1 then b1 else a1; A.ival_Join.p0 k a0 a1 b0 b1 t1 t2 t3 t4
theorem A.ival_Join.r (a0 : Int) (a1 : Int) (b0 : Int) (b1 : Int) : runF P G (tab L_A.ival_Leq) { merge := true } 60 Tryd.f45 [.agg #[.int .i64 a0, .int .i64 a1], .agg #[.int .i64 b0, .int .i64 b1]] = A.ival_Join.c (fun q => some (.agg #[.int .i64 (q).1, .int .i64 (q).2] : Value)) a0 a1 b0 b1 := by kernel_rfl
theorem A.ival_Join.t : TabOK P G (tab L_A.ival_Join) :=
  TabOK_mk C A.ival_Leq.t Tryd.func45 (by kernel_rfl) true 60 (by
    rintro ⟨⟨a0, ⟨a1, ⟨⟩⟩⟩, ⟨⟨b0, ⟨b1, ⟨⟩⟩⟩, ⟨⟩⟩⟩ h
    exact (A.ival_Join.r a0 a1 b0 b1).trans (A.ival_Join.p (fun q => some (.agg #[.int .i64 (q).1, .int .i64 (q).2] : Value)) a0 a1 b0 b1))

def A.ival_Meet.c0 {γ : Type} (k : Int × Int → γ) (a0 : Int) (a1 : Int) (b0 : Int) (b1 : Int) (t1 : Bool) (t2 : Bool) (t3 : Int) (t4 : Int) (t5 : Bool) : γ := bif t1
  then k (1, 0)
  else bif t2
   then k (1, 0)
   else bif t5
    then k (1, 0)
    else k (t3, t4)
def A.ival_Meet.c {γ : Type} (k : Int × Int → γ) (a0 : Int) (a1 : Int) (b0 : Int) (b1 : Int) : γ := let t1 := A.ival_none a0 a1; let t2 := A.ival_none b0 b1; let t3 := if b0 > a0 then b0 else a0; let t4 := if b1 < a1 then b1 else a1; let t5 := A.ival_none t3 t4; A.ival_Meet.c0 k a0 a1 b0 b1 t1 t2 t3 t4 t5
def A.ival_Meet (a0 : Int) (a1 : Int) (b0 : Int) (b1 : Int) : Int × Int := A.ival_Meet.c id a0 a1 b0 b1
def A.ival_Meet.F : FV := mkF (cP (cA (cP (cI .i64) (cP (cI .i64) cU))) (cP (cA (cP (cI .i64) (cP (cI .i64) cU))) cU)) (fun _ => true) (fun | ((a0, (a1, ())), ((b0, (b1, ())), ())) => .agg #[.int .i64 (A.ival_Meet a0 a1 b0 b1).1, .int .i64 (A.ival_Meet a0 a1 b0 b1).2])
def L_A.ival_Meet : TL := (44, A.ival_Meet.F) :: L_A.ival_Join
theorem A.ival_Meet.p0 {γ : Type} (k : Int × Int → γ) (a0 : Int) (a1 : Int) (b0 : Int) (b1 : Int) (t1 : Bool) (t2 : Bool) (t3 : Int) (t4 : Int) (t5 : Bool) : A.ival_Meet.c0 k a0 a1 b0 b1 t1 t2 t3 t4 t5 = k (A.ival_Meet.c0 id a0 a1 b0 b1 t1 t2 t3 t4 t5) := by
  unfold A.ival_Meet.c0; (repeat' (first | (apply pc k) | (exact rfl)))
theorem A.ival_Meet.p {γ : Type} (k : Int × Int → γ) (a0 : Int) (a1 : Int) (b0 : Int) (b1 : Int) : A.ival_Meet.c k a0 a1 b0 b1 = k (A.ival_Meet a0 a1 b0 b1) :=
  let t1 := A.ival_none a0 a1; let t2 := A.ival_none b0 b1; let t3 := if b0 > a0 then b0 else a0; let t4 := if b1 < a1 then b1 else a1; let t5 := A.ival_none t3 t4; A.ival_Meet.p0 k a0 a1 b0 b1 t1 t2 t3 t4 t5
theorem A.ival_Meet.r (a0 : Int) (a1 : Int) (b0 : Int) (b1 : Int) : runF P G (tab L_A.ival_Join) { merge := true } 60 Tryd.f44 [.agg #[.int .i64 a0, .int .i64 a1], .agg #[.int .i64 b0, .int .i64 b1]] = A.ival_Meet.c (fun q => some (.agg #[.int .i64 (q).1, .int .i64 (q).2] : Value)) a0 a1 b0 b1 := by kernel_rfl
theorem A.ival_Meet.t : TabOK P G (tab L_A.ival_Meet) :=
  TabOK_mk C A.ival_Join.t Tryd.func44 (by kernel_rfl) true 60 (by
    rintro ⟨⟨a0, ⟨a1, ⟨⟩⟩⟩, ⟨⟨b0, ⟨b1, ⟨⟩⟩⟩, ⟨⟩⟩⟩ h
    exact (A.ival_Meet.r a0 a1 b0 b1).trans (A.ival_Meet.p (fun q => some (.agg #[.int .i64 (q).1, .int .i64 (q).2] : Value)) a0 a1 b0 b1))

end
end Go.Proofs.YtmadebejnhinoaaDoor.V


set_option linter.unusedVariables false
set_option linter.unusedSimpArgs false
namespace Go.Proofs.YtmadebejnhinoaaDoor.V
open Go Go.Wk
noncomputable section

end
end Go.Proofs.YtmadebejnhinoaaDoor.V


set_option linter.unusedVariables false
set_option linter.unusedSimpArgs false
namespace Go.Proofs.YtmadebejnhinoaaDoor.V
open Go Go.Wk
noncomputable section

def B.cong_Norm.c {γ : Type} (n : γ) (k : Int × Int → γ) (a0 : Int) (a1 : Int) : γ := bif decide (a0 > 0)
  then bif !decide (a0 = 0)
   then k (a0, a1.tmod a0)
   else n
  else k (a0, a1)
def B.cong_Norm.ok (a0 : Int) (a1 : Int) : Bool := B.cong_Norm.c false (fun _ => true) a0 a1
def B.cong_Norm (a0 : Int) (a1 : Int) : Int × Int := B.cong_Norm.c (0, 0) id a0 a1
def B.cong_Norm.F : FV := mkF (cP (cA (cP (cI .u64) (cP (cI .u64) cU))) cU) (fun _ => true) (fun | ((a0, (a1, ())), ()) => .agg #[.int .u64 (B.cong_Norm a0 a1).1, .int .u64 (B.cong_Norm a0 a1).2])
def L_B.cong_Norm : TL := (51, B.cong_Norm.F) :: L_A.ival_Meet
theorem B.cong_Norm.okt (a0 : Int) (a1 : Int) : B.cong_Norm.ok a0 a1 = true := by
  unfold B.cong_Norm.ok B.cong_Norm.c; by_cases h : a0 = 0 <;> simp [h] <;> omega
theorem B.cong_Norm.p {γ : Type} (k : Int × Int → γ) (a0 : Int) (a1 : Int) (h : B.cong_Norm.ok a0 a1 = true) : B.cong_Norm.c none (fun q => some (k q)) a0 a1 = some (k (B.cong_Norm a0 a1)) := by
  revert h; unfold B.cong_Norm B.cong_Norm.ok B.cong_Norm.c; (repeat' (first | (apply pn k) | (exact pn_none _ _) | (exact pn_leaf k _)))
theorem B.cong_Norm.r (a0 : Int) (a1 : Int) : runF P G (tab L_A.ival_Meet) { merge := true } 60 Tryd.f51 [.agg #[.int .u64 a0, .int .u64 a1]] = B.cong_Norm.c none (fun q => some (.agg #[.int .u64 (q).1, .int .u64 (q).2] : Value)) a0 a1 := by kernel_rfl
theorem B.cong_Norm.t : TabOK P G (tab L_B.cong_Norm) :=
  TabOK_mk C A.ival_Meet.t Tryd.func51 (by kernel_rfl) true 60 (by
    rintro ⟨⟨a0, ⟨a1, ⟨⟩⟩⟩, ⟨⟩⟩ h
    exact (B.cong_Norm.r a0 a1).trans (B.cong_Norm.p (fun q => (.agg #[.int .u64 (q).1, .int .u64 (q).2] : Value)) a0 a1 (B.cong_Norm.okt a0 a1)))

def B.cong_Const.c0 {γ : Type} (k : Int × Int → γ) (a : Int) (t1 : Int) : γ := k (0, t1)
def B.cong_Const.c {γ : Type} (k : Int × Int → γ) (a : Int) : γ := let t1 := IntKind.u64.wrap a; B.cong_Const.c0 k a t1
def B.cong_Const (a : Int) : Int × Int := B.cong_Const.c id a
def B.cong_Const.F : FV := mkF (cP (cI .i64) cU) (fun _ => true) (fun | (a, ()) => .agg #[.int .u64 (B.cong_Const a).1, .int .u64 (B.cong_Const a).2])
def L_B.cong_Const : TL := (54, B.cong_Const.F) :: L_B.cong_Norm
theorem B.cong_Const.p0 {γ : Type} (k : Int × Int → γ) (a : Int) (t1 : Int) : B.cong_Const.c0 k a t1 = k (B.cong_Const.c0 id a t1) := by
  unfold B.cong_Const.c0; (repeat' (first | (apply pc k) | (exact rfl)))
theorem B.cong_Const.p {γ : Type} (k : Int × Int → γ) (a : Int) : B.cong_Const.c k a = k (B.cong_Const a) :=
  let t1 := IntKind.u64.wrap a; B.cong_Const.p0 k a t1
theorem B.cong_Const.r (a : Int) : runF P G (tab L_B.cong_Norm) { merge := true } 60 Tryd.f54 [.int .i64 a] = B.cong_Const.c (fun q => some (.agg #[.int .u64 (q).1, .int .u64 (q).2] : Value)) a := by kernel_rfl
theorem B.cong_Const.t : TabOK P G (tab L_B.cong_Const) :=
  TabOK_mk C B.cong_Norm.t Tryd.func54 (by kernel_rfl) true 60 (by
    rintro ⟨a, ⟨⟩⟩ h
    exact (B.cong_Const.r a).trans (B.cong_Const.p (fun q => some (.agg #[.int .u64 (q).1, .int .u64 (q).2] : Value)) a))

def B.cong_alone.c {γ : Type} (k : Bool → γ) (a0 : Int) (a1 : Int) : γ := k (a0 == 0)
def B.cong_alone (a0 : Int) (a1 : Int) : Bool := B.cong_alone.c id a0 a1
def B.cong_alone.F : FV := mkF (cP (cA (cP (cI .u64) (cP (cI .u64) cU))) cU) (fun _ => true) (fun | ((a0, (a1, ())), ()) => .bool (B.cong_alone a0 a1))
def L_B.cong_alone : TL := (57, B.cong_alone.F) :: L_B.cong_Const
theorem B.cong_alone.p {γ : Type} (k : Bool → γ) (a0 : Int) (a1 : Int) : B.cong_alone.c k a0 a1 = k (B.cong_alone a0 a1) := by
  unfold B.cong_alone B.cong_alone.c; (repeat' (first | (apply pc k) | (exact rfl)))
theorem B.cong_alone.r (a0 : Int) (a1 : Int) : runF P G (tab L_B.cong_Const) { merge := true } 60 Tryd.f57 [.agg #[.int .u64 a0, .int .u64 a1]] = B.cong_alone.c (fun q => some (.bool (q) : Value)) a0 a1 := by kernel_rfl
theorem B.cong_alone.t : TabOK P G (tab L_B.cong_alone) :=
  TabOK_mk C B.cong_Const.t Tryd.func57 (by kernel_rfl) true 60 (by
    rintro ⟨⟨a0, ⟨a1, ⟨⟩⟩⟩, ⟨⟩⟩ h
    exact (B.cong_alone.r a0 a1).trans (B.cong_alone.p (fun q => some (.bool (q) : Value)) a0 a1))

def B.cong_rest.c0 {γ : Type} (n : γ) (k : Int → γ) (a0 : Int) (a1 : Int) (b : Int) (t1 : Bool) (t2 : Int) (t3 : Int) : γ := bif t1
  then k (t3)
  else bif b == 0
   then k (a1)
   else bif !decide (b = 0)
    then k (a1.tmod b)
    else n
def B.cong_rest.c {γ : Type} (n : γ) (k : Int → γ) (a0 : Int) (a1 : Int) (b : Int) : γ := let t1 := B.cong_alone a0 a1; let t2 := IntKind.i64.wrap a1; let t3 := word_Mod t2 b; B.cong_rest.c0 n k a0 a1 b t1 t2 t3
def B.cong_rest.ok (a0 : Int) (a1 : Int) (b : Int) : Bool := B.cong_rest.c false (fun _ => true) a0 a1 b
def B.cong_rest (a0 : Int) (a1 : Int) (b : Int) : Int := B.cong_rest.c (0) id a0 a1 b
def B.cong_rest.F : FV := mkF (cP (cA (cP (cI .u64) (cP (cI .u64) cU))) (cP (cI .u64) cU)) (fun _ => true) (fun | ((a0, (a1, ())), (b, ())) => .int .u64 (B.cong_rest a0 a1 b))
def L_B.cong_rest : TL := (58, B.cong_rest.F) :: L_B.cong_alone
theorem B.cong_rest.okt (a0 : Int) (a1 : Int) (b : Int) : B.cong_rest.ok a0 a1 b = true := by
  unfold B.cong_rest.ok B.cong_rest.c B.cong_rest.c0; cases B.cong_alone a0 a1 <;> by_cases h : b = 0 <;> simp [h]
theorem B.cong_rest.p0 {γ : Type} (k : Int → γ) (a0 : Int) (a1 : Int) (b : Int) (t1 : Bool) (t2 : Int) (t3 : Int) : B.cong_rest.c0 false (fun _ => true) a0 a1 b t1 t2 t3 = true → B.cong_rest.c0 none (fun q => some (k q)) a0 a1 b t1 t2 t3 = some (k (B.cong_rest.c0 (0) id a0 a1 b t1 t2 t3)) := by
  unfold B.cong_rest.c0; (repeat' (first | (apply pn k) | (exact pn_none _ _) | (exact pn_leaf k _)))
theorem B.cong_rest.p {γ : Type} (k : Int → γ) (a0 : Int) (a1 : Int) (b : Int) (h : B.cong_rest.ok a0 a1 b = true) : B.cong_rest.c none (fun q => some (k q)) a0 a1 b = some (k (B.cong_rest a0 a1 b)) :=
  let t1 := B.cong_alone a0 a1; let t2 := IntKind.i64.wrap a1; let t3 := word_Mod t2 b; B.cong_rest.p0 k a0 a1 b t1 t2 t3 h
theorem B.cong_rest.r (a0 : Int) (a1 : Int) (b : Int) : runF P G (tab L_B.cong_alone) { merge := true } 60 Tryd.f58 [.agg #[.int .u64 a0, .int .u64 a1], .int .u64 b] = B.cong_rest.c none (fun q => some (.int .u64 (q) : Value)) a0 a1 b := by kernel_rfl
theorem B.cong_rest.t : TabOK P G (tab L_B.cong_rest) :=
  TabOK_mk C B.cong_alone.t Tryd.func58 (by kernel_rfl) true 60 (by
    rintro ⟨⟨a0, ⟨a1, ⟨⟩⟩⟩, ⟨b, ⟨⟩⟩⟩ h
    exact (B.cong_rest.r a0 a1 b).trans (B.cong_rest.p (fun q => (.int .u64 (q) : Value)) a0 a1 b (B.cong_rest.okt a0 a1 b)))

def B.cong_minus.c0 {γ : Type} (k : Int → γ) (a : Int) (b : Int) (c : Int) (t1 : Int) (t2 : Int) (t3 : Int) : γ := bif decide (a ≥ b)
  then k (t1)
  else k (t3)
def B.cong_minus.c {γ : Type} (k : Int → γ) (a : Int) (b : Int) (c : Int) : γ := let t1 := IntKind.u64.wrap (a - b); let t2 := IntKind.u64.wrap (c - b); let t3 := IntKind.u64.wrap (t2 + a); B.cong_minus.c0 k a b c t1 t2 t3
def B.cong_minus (a : Int) (b : Int) (c : Int) : Int := B.cong_minus.c id a b c
def B.cong_minus.F : FV := mkF (cP (cI .u64) (cP (cI .u64) (cP (cI .u64) cU))) (fun _ => true) (fun | (a, (b, (c, ()))) => .int .u64 (B.cong_minus a b c))
def L_B.cong_minus : TL := (60, B.cong_minus.F) :: L_B.cong_rest
theorem B.cong_minus.p0 {γ : Type} (k : Int → γ) (a : Int) (b : Int) (c : Int) (t1 : Int) (t2 : Int) (t3 : Int) : B.cong_minus.c0 k a b c t1 t2 t3 = k (B.cong_minus.c0 id a b c t1 t2 t3) := by
  unfold B.cong_minus.c0; (repeat' (first | (apply pc k) | (exact rfl)))
theorem B.cong_minus.p {γ : Type} (k : Int → γ) (a : Int) (b : Int) (c : Int) : B.cong_minus.c k a b c = k (B.cong_minus a b c) :=
  let t1 := IntKind.u64.wrap (a - b); let t2 := IntKind.u64.wrap (c - b); let t3 := IntKind.u64.wrap (t2 + a); B.cong_minus.p0 k a b c t1 t2 t3
theorem B.cong_minus.r (a : Int) (b : Int) (c : Int) : runF P G (tab L_B.cong_rest) { merge := true } 60 Tryd.f60 [.int .u64 a, .int .u64 b, .int .u64 c] = B.cong_minus.c (fun q => some (.int .u64 (q) : Value)) a b c := by kernel_rfl
theorem B.cong_minus.t : TabOK P G (tab L_B.cong_minus) :=
  TabOK_mk C B.cong_rest.t Tryd.func60 (by kernel_rfl) true 60 (by
    rintro ⟨a, ⟨b, ⟨c, ⟨⟩⟩⟩⟩ h
    exact (B.cong_minus.r a b c).trans (B.cong_minus.p (fun q => some (.int .u64 (q) : Value)) a b c))

def B.cong_times.c0 {γ : Type} (n : γ) (k : Int → γ) (a : Int) (b : Int) (c : Int) (t1 : Int × Int) (t2 : Bool) (t3 : Int) : γ := bif t2
  then k (t3)
  else n
def B.cong_times.c {γ : Type} (n : γ) (k : Int → γ) (a : Int) (b : Int) (c : Int) : γ := let t1 := bits_Mul64 a b; let t2 := bits_Rem64.ok t1.fst t1.snd c; let t3 := bits_Rem64 t1.fst t1.snd c; B.cong_times.c0 n k a b c t1 t2 t3
def B.cong_times.ok (a : Int) (b : Int) (c : Int) : Bool := B.cong_times.c false (fun _ => true) a b c
def B.cong_times (a : Int) (b : Int) (c : Int) : Int := B.cong_times.c (0) id a b c
def B.cong_times.F : FV := mkF (cP (cI .u64) (cP (cI .u64) (cP (cI .u64) cU))) (fun | (a, (b, (c, ()))) => B.cong_times.ok a b c) (fun | (a, (b, (c, ()))) => .int .u64 (B.cong_times a b c))
def L_B.cong_times : TL := (61, B.cong_times.F) :: L_B.cong_minus
theorem B.cong_times.p0 {γ : Type} (k : Int → γ) (a : Int) (b : Int) (c : Int) (t1 : Int × Int) (t2 : Bool) (t3 : Int) : B.cong_times.c0 false (fun _ => true) a b c t1 t2 t3 = true → B.cong_times.c0 none (fun q => some (k q)) a b c t1 t2 t3 = some (k (B.cong_times.c0 (0) id a b c t1 t2 t3)) := by
  unfold B.cong_times.c0; (repeat' (first | (apply pn k) | (exact pn_none _ _) | (exact pn_leaf k _)))
theorem B.cong_times.p {γ : Type} (k : Int → γ) (a : Int) (b : Int) (c : Int) (h : B.cong_times.ok a b c = true) : B.cong_times.c none (fun q => some (k q)) a b c = some (k (B.cong_times a b c)) :=
  let t1 := bits_Mul64 a b; let t2 := bits_Rem64.ok t1.fst t1.snd c; let t3 := bits_Rem64 t1.fst t1.snd c; B.cong_times.p0 k a b c t1 t2 t3 h
theorem B.cong_times.r (a : Int) (b : Int) (c : Int) : runF P G (tab L_B.cong_minus) { merge := true } 60 Tryd.f61 [.int .u64 a, .int .u64 b, .int .u64 c] = B.cong_times.c none (fun q => some (.int .u64 (q) : Value)) a b c := by kernel_rfl
theorem B.cong_times.t : TabOK P G (tab L_B.cong_times) :=
  TabOK_mk C B.cong_minus.t Tryd.func61 (by kernel_rfl) true 60 (by
    rintro ⟨a, ⟨b, ⟨c, ⟨⟩⟩⟩⟩ h
    exact (B.cong_times.r a b c).trans (B.cong_times.p (fun q => (.int .u64 (q) : Value)) a b c h))

def B.cong_inverse.val (q : Int) : Value := .int .u64 (q)
def B.cong_inverse.h : List (Nat × List Nat × Nat) := [(3, [1, 5, 6, 7, 8], 0)]
def B.cong_inverse.e0 (q : Int × Int × Int × Int × Int) : St := { tmps := [.unk, .val (.int .u64 (q).1), .unk, .unk, .unk, .val (.int .u64 (q).2.1), .val (.int .u64 (q).2.2.1), .val (.int .u64 (q).2.2.2.1), .val (.int .u64 (q).2.2.2.2), .unk, .unk, .unk, .unk, .unk, .unk, .unk, .unk, .unk, .unk, .unk, .unk, .unk, .unk, .unk, .unk, .unk, .unk, .unk, .unk, .unk, .unk, .unk, .unk, .unk, .unk, .unk, .unk, .unk], blks := [], saved := [] }
noncomputable def B.cong_inverse.B0 : Code := loopAt [1, 1, 1, 0, 0] (fbody Tryd.f62)
noncomputable def B.cong_inverse.H (F0 : LSum) : Heads := { heads := B.cong_inverse.h, merge := true, sums := [(3, F0)] }
noncomputable def B.cong_inverse.H0  : Heads := { heads := B.cong_inverse.h, merge := true, sums := [] }
noncomputable def B.cong_inverse.K0 (F0 : LSum) : Xt → St → Option Value := kAt P G (tab L_B.cong_times) (B.cong_inverse.H F0) [1, 1, 1, 0, 0] 60 (fbody Tryd.f62) (retK P G Tryd.f62)
def B.cong_inverse.l0.c0 {γ : Type} (k0 : Int × Int × Int × Int × Int → Option γ) (k : Int → Option γ) (s1 : Int) (s5 : Int) (s6 : Int) (s7 : Int) (s8 : Int) (t1 : Int) (t2 : Bool) (t3 : Int) (t4 : Int) (t5 : Int) (t6 : Int) : Option γ := bif s6 != 0
  then bif !decide (s6 = 0)
   then bif !decide (s1 = 0)
    then bif t2
     then k0 (s1, s6, t4, s8, t6)
     else none
    else none
   else none
  else k (s7)
def B.cong_inverse.l0.c {γ : Type} (k0 : Int × Int × Int × Int × Int → Option γ) (k : Int → Option γ) (s1 : Int) (s5 : Int) (s6 : Int) (s7 : Int) (s8 : Int) : Option γ := let t1 := IntKind.u64.wrap (s5.tdiv s6); let t2 := B.cong_times.ok (t1.tmod s1) s8 s1; let t3 := IntKind.u64.wrap (t1 * s6); let t4 := IntKind.u64.wrap (s5 - t3); let t5 := B.cong_times (t1.tmod s1) s8 s1; let t6 := B.cong_minus s7 t5 s1; B.cong_inverse.l0.c0 k0 k s1 s5 s6 s7 s8 t1 t2 t3 t4 t5 t6
def B.cong_inverse.c {γ : Type} (k0 : Int × Int × Int × Int × Int → Option γ) (k : Int → Option γ) (a : Int) (b : Int) : Option γ := bif !decide (b = 0)
  then bif !decide (b = 0)
   then k0 (b, b, a.tmod b, 0, Int.tmod 1 b)
   else none
  else none
def B.cong_inverse.L0 (N : Nat)  : Nat → Int × Int × Int × Int × Int → Option (Int)
  | 0, _ => none
  | m + 1, q => B.cong_inverse.l0.c (B.cong_inverse.L0 N m) some (q).1 (q).2.1 (q).2.2.1 (q).2.2.2.1 (q).2.2.2.2
def B.cong_inverse.o (N : Nat) (a : Int) (b : Int) : Option (Int) := B.cong_inverse.c (B.cong_inverse.L0 N  N) some a b
noncomputable def B.cong_inverse.S0 (N : Nat) : LSum := sumN P G (tab L_B.cong_times) (B.cong_inverse.H0 ) 60 B.cong_inverse.B0 N
theorem B.cong_inverse.l0.p0 {γ δ : Type} (f : γ → δ) (k0 : Int × Int × Int × Int × Int → Option γ) (k : Int → Option γ) (s1 : Int) (s5 : Int) (s6 : Int) (s7 : Int) (s8 : Int) (t1 : Int) (t2 : Bool) (t3 : Int) (t4 : Int) (t5 : Int) (t6 : Int) : B.cong_inverse.l0.c0 (fun q => (k0 q).map f) (fun q => (k q).map f) s1 s5 s6 s7 s8 t1 t2 t3 t4 t5 t6 = (B.cong_inverse.l0.c0 k0 k s1 s5 s6 s7 s8 t1 t2 t3 t4 t5 t6).map f := by
  unfold B.cong_inverse.l0.c0; (repeat' (first | (apply pm f) | (exact rfl)))
theorem B.cong_inverse.l0.p {γ δ : Type} (f : γ → δ) (k0 : Int × Int × Int × Int × Int → Option γ) (k : Int → Option γ) (s1 : Int) (s5 : Int) (s6 : Int) (s7 : Int) (s8 : Int) : B.cong_inverse.l0.c (fun q => (k0 q).map f) (fun q => (k q).map f) s1 s5 s6 s7 s8 = (B.cong_inverse.l0.c k0 k s1 s5 s6 s7 s8).map f :=
  let t1 := IntKind.u64.wrap (s5.tdiv s6); let t2 := B.cong_times.ok (t1.tmod s1) s8 s1; let t3 := IntKind.u64.wrap (t1 * s6); let t4 := IntKind.u64.wrap (s5 - t3); let t5 := B.cong_times (t1.tmod s1) s8 s1; let t6 := B.cong_minus s7 t5 s1; B.cong_inverse.l0.p0 f k0 k s1 s5 s6 s7 s8 t1 t2 t3 t4 t5 t6
theorem B.cong_inverse.p {γ δ : Type} (f : γ → δ) (k0 : Int × Int × Int × Int × Int → Option γ) (k : Int → Option γ) (a : Int) (b : Int) : B.cong_inverse.c (fun q => (k0 q).map f) (fun q => (k q).map f) a b = (B.cong_inverse.c k0 k a b).map f := by
  unfold B.cong_inverse.c; (repeat' (first | (apply pm f) | (exact rfl)))
theorem B.cong_inverse.S0.ok (N : Nat) : LoopsOK P G (B.cong_inverse.H0 ).sums B.cong_inverse.B0 := by
  refine LoopsOK_code fun i hi F hF => ?_
  have hlen : (loopsOf B.cong_inverse.B0).length = 0 := by kernel_rfl
  rw [hlen] at hi
  omega

theorem B.cong_inverse.S0.snd (N : Nat) : SoundL P G B.cong_inverse.B0 (B.cong_inverse.S0 N) := sumN_sound C.mixed C.names B.cong_times.t (B.cong_inverse.S0.ok N) N
theorem B.cong_inverse.l0.r (F0 G0 : LSum) (s1 : Int) (s5 : Int) (s6 : Int) (s7 : Int) (s8 : Int) : ex P G (tab L_B.cong_times) (B.cong_inverse.H0 ) 60 B.cong_inverse.B0 (B.cong_inverse.e0 (s1, s5, s6, s7, s8)) (roundK (B.cong_inverse.H0 ) B.cong_inverse.B0 G0 (B.cong_inverse.K0 F0)) = B.cong_inverse.l0.c (fun q => G0.run (B.cong_inverse.e0 q) (B.cong_inverse.K0 F0)) (fun q => some (B.cong_inverse.val q)) s1 s5 s6 s7 s8 := by kernel_rfl
theorem B.cong_inverse.r (F0 : LSum) (a : Int) (b : Int) : runF P G (tab L_B.cong_times) (B.cong_inverse.H F0) 60 Tryd.f62 [.int .u64 a, .int .u64 b] = B.cong_inverse.c (fun q => F0.run (B.cong_inverse.e0 q) (B.cong_inverse.K0 F0)) (fun q => some (B.cong_inverse.val q)) a b := by kernel_rfl
theorem B.cong_inverse.L0.ok (N : Nat) (F0 : LSum)   : ∀ m q, (sumN P G (tab L_B.cong_times) (B.cong_inverse.H0 ) 60 B.cong_inverse.B0 m).run (B.cong_inverse.e0 q) (B.cong_inverse.K0 F0) = (B.cong_inverse.L0 N  m q).map B.cong_inverse.val
  | 0, q => rfl
  | m + 1, q => by
    have ih := B.cong_inverse.L0.ok N F0   m
    refine (sumN_run (n := m) rfl).trans ((B.cong_inverse.l0.r F0 (sumN P G (tab L_B.cong_times) (B.cong_inverse.H0 ) 60 B.cong_inverse.B0 m) (q).1 (q).2.1 (q).2.2.1 (q).2.2.2.1 (q).2.2.2.2).trans ?_)
    refine Eq.trans ?_ (B.cong_inverse.l0.p B.cong_inverse.val (B.cong_inverse.L0 N m) some (q).1 (q).2.1 (q).2.2.1 (q).2.2.2.1 (q).2.2.2.2)
    have e0 : (fun q => (sumN P G (tab L_B.cong_times) (B.cong_inverse.H0 ) 60 B.cong_inverse.B0 m).run (B.cong_inverse.e0 q) (B.cong_inverse.K0 F0)) = (fun q => ((B.cong_inverse.L0 N m) q).map B.cong_inverse.val) := funext ih
    rw [e0]; rfl

theorem B.cong_inverse.q (N : Nat) (a : Int) (b : Int) : runF P G (tab L_B.cong_times) (B.cong_inverse.H (B.cong_inverse.S0 N)) 60 Tryd.f62 [.int .u64 a, .int .u64 b] = (B.cong_inverse.o N a b).map B.cong_inverse.val := by
  have hk0 := B.cong_inverse.L0.ok N (B.cong_inverse.S0 N)   N
  refine (B.cong_inverse.r (B.cong_inverse.S0 N) a b).trans ?_
  refine Eq.trans ?_ (B.cong_inverse.p B.cong_inverse.val (B.cong_inverse.L0 N  N) some a b)
  have e0 : (fun q => (B.cong_inverse.S0 N).run (B.cong_inverse.e0 q) (B.cong_inverse.K0 (B.cong_inverse.S0 N))) = (fun q => ((B.cong_inverse.L0 N  N) q).map B.cong_inverse.val) := funext hk0
  rw [e0]; rfl

theorem B.cong_inverse.lok (N : Nat) : LoopsOK P G (B.cong_inverse.H (B.cong_inverse.S0 N)).sums (fbody Tryd.f62) := by
  refine LoopsOK_code fun i hi F hF => ?_
  have hlen : (loopsOf (fbody Tryd.f62)).length = 1 := by kernel_rfl
  rw [hlen] at hi
  match i, hi with
  | 0, _ => exact soundAt (B' := B.cong_inverse.B0) (by kernel_rfl) (by kernel_rfl) (B.cong_inverse.S0.snd N) hF
  | _ + 1, h => omega

def B.cong_inverse (a : Int) (b : Int) : Int := hide ((B.cong_inverse.o (b.toNat + 2) a b).getD (0))
def B.cong_inverse.g (a : Int) (b : Int) : Bool := hide (B.cong_inverse.o (b.toNat + 2) a b).isSome
theorem B.cong_inverse.s (a : Int) (b : Int) (h : B.cong_inverse.g a b = true) : B.cong_inverse.o (b.toNat + 2) a b = some (B.cong_inverse a b) := by
  unfold B.cong_inverse.g at h; unfold B.cong_inverse; simp only [hide_eq] at h ⊢; revert h; cases B.cong_inverse.o (b.toNat + 2) a b <;> simp
def B.cong_inverse.F : FV := mkF (cP (cI .u64) (cP (cI .u64) cU)) (fun | (a, (b, ())) => B.cong_inverse.g a b) (fun | (a, (b, ())) => B.cong_inverse.val (B.cong_inverse a b))
def L_B.cong_inverse : TL := (62, B.cong_inverse.F) :: L_B.cong_times
theorem B.cong_inverse.t : TabOK P G (tab L_B.cong_inverse) :=
  TabOK_mkH C B.cong_times.t Tryd.func62 (by kernel_rfl) (fun | (_, (b, ())) => B.cong_inverse.H (B.cong_inverse.S0 (b.toNat + 2))) (by rintro ⟨a, ⟨b, ⟨⟩⟩⟩; exact B.cong_inverse.lok _) 60 (by
    rintro ⟨a, ⟨b, ⟨⟩⟩⟩ h
    exact (B.cong_inverse.q (b.toNat + 2) a b).trans (congrArg (Option.map B.cong_inverse.val) (B.cong_inverse.s a b h)))

def B.cong_Has.c0 {γ : Type} (k : Bool → γ) (a0 : Int) (a1 : Int) (b : Int) (t1 : Int × Int) (t2 : Int) : γ := k (t2 == t1.snd)
def B.cong_Has.c {γ : Type} (k : Bool → γ) (a0 : Int) (a1 : Int) (b : Int) : γ := let t1 := B.cong_Norm a0 a1; let t2 := word_Mod b t1.fst; B.cong_Has.c0 k a0 a1 b t1 t2
def B.cong_Has (a0 : Int) (a1 : Int) (b : Int) : Bool := B.cong_Has.c id a0 a1 b
def B.cong_Has.F : FV := mkF (cP (cA (cP (cI .u64) (cP (cI .u64) cU))) (cP (cI .i64) cU)) (fun _ => true) (fun | ((a0, (a1, ())), (b, ())) => .bool (B.cong_Has a0 a1 b))
def L_B.cong_Has : TL := (37, B.cong_Has.F) :: L_B.cong_inverse
theorem B.cong_Has.p0 {γ : Type} (k : Bool → γ) (a0 : Int) (a1 : Int) (b : Int) (t1 : Int × Int) (t2 : Int) : B.cong_Has.c0 k a0 a1 b t1 t2 = k (B.cong_Has.c0 id a0 a1 b t1 t2) := by
  unfold B.cong_Has.c0; (repeat' (first | (apply pc k) | (exact rfl)))
theorem B.cong_Has.p {γ : Type} (k : Bool → γ) (a0 : Int) (a1 : Int) (b : Int) : B.cong_Has.c k a0 a1 b = k (B.cong_Has a0 a1 b) :=
  let t1 := B.cong_Norm a0 a1; let t2 := word_Mod b t1.fst; B.cong_Has.p0 k a0 a1 b t1 t2
theorem B.cong_Has.r (a0 : Int) (a1 : Int) (b : Int) : runF P G (tab L_B.cong_inverse) { merge := true } 60 Tryd.f37 [.agg #[.int .u64 a0, .int .u64 a1], .int .i64 b] = B.cong_Has.c (fun q => some (.bool (q) : Value)) a0 a1 b := by kernel_rfl
theorem B.cong_Has.t : TabOK P G (tab L_B.cong_Has) :=
  TabOK_mk C B.cong_inverse.t Tryd.func37 (by kernel_rfl) true 60 (by
    rintro ⟨⟨a0, ⟨a1, ⟨⟩⟩⟩, ⟨b, ⟨⟩⟩⟩ h
    exact (B.cong_Has.r a0 a1 b).trans (B.cong_Has.p (fun q => some (.bool (q) : Value)) a0 a1 b))

def B.cong_Leq.c0 {γ : Type} (n : γ) (k : Bool → γ) (a0 : Int) (a1 : Int) (b0 : Int) (b1 : Int) (t1 : Int × Int) (t2 : Bool) (t3 : Int × Int) (t4 : Int) : γ := bif t2
  then k (t3.fst == t1.fst && (t3.snd == t1.snd && true))
  else bif !decide (t1.fst = 0)
   then bif t3.fst.tmod t1.fst == 0
    then k (t4 == t1.snd)
    else k (false)
   else n
def B.cong_Leq.c {γ : Type} (n : γ) (k : Bool → γ) (a0 : Int) (a1 : Int) (b0 : Int) (b1 : Int) : γ := let t1 := B.cong_Norm b0 b1; let t2 := B.cong_alone t1.fst t1.snd; let t3 := B.cong_Norm a0 a1; let t4 := B.cong_rest t3.fst t3.snd t1.fst; B.cong_Leq.c0 n k a0 a1 b0 b1 t1 t2 t3 t4
def B.cong_Leq.ok (a0 : Int) (a1 : Int) (b0 : Int) (b1 : Int) : Bool := B.cong_Leq.c false (fun _ => true) a0 a1 b0 b1
def B.cong_Leq (a0 : Int) (a1 : Int) (b0 : Int) (b1 : Int) : Bool := B.cong_Leq.c (false) id a0 a1 b0 b1
def B.cong_Leq.F : FV := mkF (cP (cA (cP (cI .u64) (cP (cI .u64) cU))) (cP (cA (cP (cI .u64) (cP (cI .u64) cU))) cU)) (fun | ((a0, (a1, ())), ((b0, (b1, ())), ())) => B.cong_Leq.ok a0 a1 b0 b1) (fun | ((a0, (a1, ())), ((b0, (b1, ())), ())) => .bool (B.cong_Leq a0 a1 b0 b1))
def L_B.cong_Leq : TL := (39, B.cong_Leq.F) :: L_B.cong_Has
theorem B.cong_Leq.p0 {γ : Type} (k : Bool → γ) (a0 : Int) (a1 : Int) (b0 : Int) (b1 : Int) (t1 : Int × Int) (t2 : Bool) (t3 : Int × Int) (t4 : Int) : B.cong_Leq.c0 false (fun _ => true) a0 a1 b0 b1 t1 t2 t3 t4 = true → B.cong_Leq.c0 none (fun q => some (k q)) a0 a1 b0 b1 t1 t2 t3 t4 = some (k (B.cong_Leq.c0 (false) id a0 a1 b0 b1 t1 t2 t3 t4)) := by
  unfold B.cong_Leq.c0; (repeat' (first | (apply pn k) | (exact pn_none _ _) | (exact pn_leaf k _)))
theorem B.cong_Leq.p {γ : Type} (k : Bool → γ) (a0 : Int) (a1 : Int) (b0 : Int) (b1 : Int) (h : B.cong_Leq.ok a0 a1 b0 b1 = true) : B.cong_Leq.c none (fun q => some (k q)) a0 a1 b0 b1 = some (k (B.cong_Leq a0 a1 b0 b1)) :=
  let t1 := B.cong_Norm b0 b1; let t2 := B.cong_alone t1.fst t1.snd; let t3 := B.cong_Norm a0 a1; let t4 := B.cong_rest t3.fst t3.snd t1.fst; B.cong_Leq.p0 k a0 a1 b0 b1 t1 t2 t3 t4 h
theorem B.cong_Leq.r (a0 : Int) (a1 : Int) (b0 : Int) (b1 : Int) : runF P G (tab L_B.cong_Has) { merge := true } 60 Tryd.f39 [.agg #[.int .u64 a0, .int .u64 a1], .agg #[.int .u64 b0, .int .u64 b1]] = B.cong_Leq.c none (fun q => some (.bool (q) : Value)) a0 a1 b0 b1 := by kernel_rfl
theorem B.cong_Leq.t : TabOK P G (tab L_B.cong_Leq) :=
  TabOK_mk C B.cong_Has.t Tryd.func39 (by kernel_rfl) true 60 (by
    rintro ⟨⟨a0, ⟨a1, ⟨⟩⟩⟩, ⟨⟨b0, ⟨b1, ⟨⟩⟩⟩, ⟨⟩⟩⟩ h
    exact (B.cong_Leq.r a0 a1 b0 b1).trans (B.cong_Leq.p (fun q => (.bool (q) : Value)) a0 a1 b0 b1 h))

def B.cong_Join.c0 {γ : Type} (n : γ) (k : Int × Int → γ) (a0 : Int) (a1 : Int) (b0 : Int) (b1 : Int) (t1 : Int × Int) (t2 : Bool) (t3 : Int) (t4 : Int × Int) (t5 : Bool) (t6 : Int) (t7 : Int) (t8 : Int) (t9 : Int) (t10 : Int) (t11 : Int) (t12 : Int) (t13 : Int) (t14 : Int) (t15 : Bool) (t16 : Int) (t17 : Int) (t18 : Int) (t19 : Int) (t20 : Int) (t21 : Int) (t22 : Bool) (t23 : Int) (t24 : Int) : γ := bif t2
  then bif t5
   then bif t6 == 0
    then k (t13, t14)
    else bif t15
     then bif t22
      then k (t23, t24)
      else n
     else n
   else n
  else n
def B.cong_Join.c {γ : Type} (n : γ) (k : Int × Int → γ) (a0 : Int) (a1 : Int) (b0 : Int) (b1 : Int) : γ := let t1 := B.cong_Norm a0 a1; let t2 := word_Gcd.g 0 t1.fst; let t3 := word_Gcd 0 t1.fst; let t4 := B.cong_Norm b0 b1; let t5 := word_Gcd.g t3 t4.fst; let t6 := word_Gcd t3 t4.fst; let t7 := IntKind.i64.wrap t4.snd; let t8 := IntKind.i64.wrap t1.snd; let t9 := if t7 > t8 then t7 else t8; let t10 := IntKind.u64.wrap t9; let t11 := if t7 < t8 then t7 else t8; let t12 := IntKind.u64.wrap t11; let t13 := IntKind.u64.wrap (t10 - t12); let t14 := B.cong_rest t1.fst t1.snd t13; let t15 := word_Gcd.g 0 t6; let t16 := word_Gcd 0 t6; let t17 := B.cong_rest t4.fst t4.snd t6; let t18 := B.cong_rest t1.fst t1.snd t6; let t19 := if t17 > t18 then t17 else t18; let t20 := if t17 < t18 then t17 else t18; let t21 := IntKind.u64.wrap (t19 - t20); let t22 := word_Gcd.g t16 t21; let t23 := word_Gcd t16 t21; let t24 := B.cong_rest t1.fst t1.snd t23; B.cong_Join.c0 n k a0 a1 b0 b1 t1 t2 t3 t4 t5 t6 t7 t8 t9 t10 t11 t12 t13 t14 t15 t16 t17 t18 t19 t20 t21 t22 t23 t24
def B.cong_Join.ok (a0 : Int) (a1 : Int) (b0 : Int) (b1 : Int) : Bool := B.cong_Join.c false (fun _ => true) a0 a1 b0 b1
def B.cong_Join (a0 : Int) (a1 : Int) (b0 : Int) (b1 : Int) : Int × Int := B.cong_Join.c (0, 0) id a0 a1 b0 b1
def B.cong_Join.F : FV := mkF (cP (cA (cP (cI .u64) (cP (cI .u64) cU))) (cP (cA (cP (cI .u64) (cP (cI .u64) cU))) cU)) (fun | ((a0, (a1, ())), ((b0, (b1, ())), ())) => B.cong_Join.ok a0 a1 b0 b1) (fun | ((a0, (a1, ())), ((b0, (b1, ())), ())) => .agg #[.int .u64 (B.cong_Join a0 a1 b0 b1).1, .int .u64 (B.cong_Join a0 a1 b0 b1).2])
def L_B.cong_Join : TL := (46, B.cong_Join.F) :: L_B.cong_Leq
theorem B.cong_Join.p0 {γ : Type} (k : Int × Int → γ) (a0 : Int) (a1 : Int) (b0 : Int) (b1 : Int) (t1 : Int × Int) (t2 : Bool) (t3 : Int) (t4 : Int × Int) (t5 : Bool) (t6 : Int) (t7 : Int) (t8 : Int) (t9 : Int) (t10 : Int) (t11 : Int) (t12 : Int) (t13 : Int) (t14 : Int) (t15 : Bool) (t16 : Int) (t17 : Int) (t18 : Int) (t19 : Int) (t20 : Int) (t21 : Int) (t22 : Bool) (t23 : Int) (t24 : Int) : B.cong_Join.c0 false (fun _ => true) a0 a1 b0 b1 t1 t2 t3 t4 t5 t6 t7 t8 t9 t10 t11 t12 t13 t14 t15 t16 t17 t18 t19 t20 t21 t22 t23 t24 = true → B.cong_Join.c0 none (fun q => some (k q)) a0 a1 b0 b1 t1 t2 t3 t4 t5 t6 t7 t8 t9 t10 t11 t12 t13 t14 t15 t16 t17 t18 t19 t20 t21 t22 t23 t24 = some (k (B.cong_Join.c0 (0, 0) id a0 a1 b0 b1 t1 t2 t3 t4 t5 t6 t7 t8 t9 t10 t11 t12 t13 t14 t15 t16 t17 t18 t19 t20 t21 t22 t23 t24)) := by
  unfold B.cong_Join.c0; (repeat' (first | (apply pn k) | (exact pn_none _ _) | (exact pn_leaf k _)))
theorem B.cong_Join.p {γ : Type} (k : Int × Int → γ) (a0 : Int) (a1 : Int) (b0 : Int) (b1 : Int) (h : B.cong_Join.ok a0 a1 b0 b1 = true) : B.cong_Join.c none (fun q => some (k q)) a0 a1 b0 b1 = some (k (B.cong_Join a0 a1 b0 b1)) :=
  let t1 := B.cong_Norm a0 a1; let t2 := word_Gcd.g 0 t1.fst; let t3 := word_Gcd 0 t1.fst; let t4 := B.cong_Norm b0 b1; let t5 := word_Gcd.g t3 t4.fst; let t6 := word_Gcd t3 t4.fst; let t7 := IntKind.i64.wrap t4.snd; let t8 := IntKind.i64.wrap t1.snd; let t9 := if t7 > t8 then t7 else t8; let t10 := IntKind.u64.wrap t9; let t11 := if t7 < t8 then t7 else t8; let t12 := IntKind.u64.wrap t11; let t13 := IntKind.u64.wrap (t10 - t12); let t14 := B.cong_rest t1.fst t1.snd t13; let t15 := word_Gcd.g 0 t6; let t16 := word_Gcd 0 t6; let t17 := B.cong_rest t4.fst t4.snd t6; let t18 := B.cong_rest t1.fst t1.snd t6; let t19 := if t17 > t18 then t17 else t18; let t20 := if t17 < t18 then t17 else t18; let t21 := IntKind.u64.wrap (t19 - t20); let t22 := word_Gcd.g t16 t21; let t23 := word_Gcd t16 t21; let t24 := B.cong_rest t1.fst t1.snd t23; B.cong_Join.p0 k a0 a1 b0 b1 t1 t2 t3 t4 t5 t6 t7 t8 t9 t10 t11 t12 t13 t14 t15 t16 t17 t18 t19 t20 t21 t22 t23 t24 h
theorem B.cong_Join.r (a0 : Int) (a1 : Int) (b0 : Int) (b1 : Int) : runF P G (tab L_B.cong_Leq) { merge := true } 60 Tryd.f46 [.agg #[.int .u64 a0, .int .u64 a1], .agg #[.int .u64 b0, .int .u64 b1]] = B.cong_Join.c none (fun q => some (.agg #[.int .u64 (q).1, .int .u64 (q).2] : Value)) a0 a1 b0 b1 := by kernel_rfl
theorem B.cong_Join.t : TabOK P G (tab L_B.cong_Join) :=
  TabOK_mk C B.cong_Leq.t Tryd.func46 (by kernel_rfl) true 60 (by
    rintro ⟨⟨a0, ⟨a1, ⟨⟩⟩⟩, ⟨⟨b0, ⟨b1, ⟨⟩⟩⟩, ⟨⟩⟩⟩ h
    exact (B.cong_Join.r a0 a1 b0 b1).trans (B.cong_Join.p (fun q => (.agg #[.int .u64 (q).1, .int .u64 (q).2] : Value)) a0 a1 b0 b1 h))

def B.cong_next.c0 {γ : Type} (k : Int × Bool → γ) (a0 : Int) (a1 : Int) (b : Int) (c : Int) (t1 : Int × Int) (t2 : Bool) (t3 : Int) (t4 : Int) (t5 : Int) (t6 : Int) (t7 : Int) (t8 : Int) (t9 : Int) (t10 : Int) (t11 : Int) (t12 : Int) (t13 : Int) (t14 : Int) (t15 : Int) (t16 : Int) (t17 : Int) (t18 : Int) (t19 : Int) : γ := bif t2
  then bif t3 == b
   then k (t3, true)
   else bif decide (t3 > b) == decide (c > 0)
    then k (t3, true)
    else k (0, false)
  else bif decide (t5 ≥ t6)
   then bif decide (t7 ≤ t11)
    then k (t14, true)
    else k (0, false)
   else bif decide (t16 ≤ t11)
    then k (t19, true)
    else k (0, false)
def B.cong_next.c {γ : Type} (k : Int × Bool → γ) (a0 : Int) (a1 : Int) (b : Int) (c : Int) : γ := let t1 := B.cong_Norm a0 a1; let t2 := B.cong_alone t1.fst t1.snd; let t3 := IntKind.i64.wrap t1.snd; let t4 := word_Mod b t1.fst; let t5 := bif decide (c < 0) then t4 else t1.snd; let t6 := bif decide (c < 0) then t1.snd else t4; let t7 := IntKind.u64.wrap (t5 - t6); let t8 := IntKind.u64.wrap b; let t9 := IntKind.u64.wrap (t8 - 9223372036854775808); let t10 := IntKind.u64.wrap (9223372036854775807 - t8); let t11 := bif decide (c < 0) then t9 else t10; let t12 := IntKind.i64.wrap t7; let t13 := IntKind.i64.wrap (t12 * c); let t14 := IntKind.i64.wrap (b + t13); let t15 := IntKind.u64.wrap (t1.fst - t6); let t16 := IntKind.u64.wrap (t15 + t5); let t17 := IntKind.i64.wrap t16; let t18 := IntKind.i64.wrap (t17 * c); let t19 := IntKind.i64.wrap (b + t18); B.cong_next.c0 k a0 a1 b c t1 t2 t3 t4 t5 t6 t7 t8 t9 t10 t11 t12 t13 t14 t15 t16 t17 t18 t19
def B.cong_next (a0 : Int) (a1 : Int) (b : Int) (c : Int) : Int × Bool := B.cong_next.c id a0 a1 b c
def B.cong_next.F : FV := mkF (cP (cA (cP (cI .u64) (cP (cI .u64) cU))) (cP (cI .i64) (cP (cI .i64) cU))) (fun _ => true) (fun | ((a0, (a1, ())), (b, (c, ()))) => .tuple #[.int .i64 (B.cong_next a0 a1 b c).1, .bool (B.cong_next a0 a1 b c).2])
def L_B.cong_next : TL := (67, B.cong_next.F) :: L_B.cong_Join
theorem B.cong_next.p0 {γ : Type} (k : Int × Bool → γ) (a0 : Int) (a1 : Int) (b : Int) (c : Int) (t1 : Int × Int) (t2 : Bool) (t3 : Int) (t4 : Int) (t5 : Int) (t6 : Int) (t7 : Int) (t8 : Int) (t9 : Int) (t10 : Int) (t11 : Int) (t12 : Int) (t13 : Int) (t14 : Int) (t15 : Int) (t16 : Int) (t17 : Int) (t18 : Int) (t19 : Int) : B.cong_next.c0 k a0 a1 b c t1 t2 t3 t4 t5 t6 t7 t8 t9 t10 t11 t12 t13 t14 t15 t16 t17 t18 t19 = k (B.cong_next.c0 id a0 a1 b c t1 t2 t3 t4 t5 t6 t7 t8 t9 t10 t11 t12 t13 t14 t15 t16 t17 t18 t19) := by
  unfold B.cong_next.c0; (repeat' (first | (apply pc k) | (exact rfl)))
theorem B.cong_next.p {γ : Type} (k : Int × Bool → γ) (a0 : Int) (a1 : Int) (b : Int) (c : Int) : B.cong_next.c k a0 a1 b c = k (B.cong_next a0 a1 b c) :=
  let t1 := B.cong_Norm a0 a1; let t2 := B.cong_alone t1.fst t1.snd; let t3 := IntKind.i64.wrap t1.snd; let t4 := word_Mod b t1.fst; let t5 := bif decide (c < 0) then t4 else t1.snd; let t6 := bif decide (c < 0) then t1.snd else t4; let t7 := IntKind.u64.wrap (t5 - t6); let t8 := IntKind.u64.wrap b; let t9 := IntKind.u64.wrap (t8 - 9223372036854775808); let t10 := IntKind.u64.wrap (9223372036854775807 - t8); let t11 := bif decide (c < 0) then t9 else t10; let t12 := IntKind.i64.wrap t7; let t13 := IntKind.i64.wrap (t12 * c); let t14 := IntKind.i64.wrap (b + t13); let t15 := IntKind.u64.wrap (t1.fst - t6); let t16 := IntKind.u64.wrap (t15 + t5); let t17 := IntKind.i64.wrap t16; let t18 := IntKind.i64.wrap (t17 * c); let t19 := IntKind.i64.wrap (b + t18); B.cong_next.p0 k a0 a1 b c t1 t2 t3 t4 t5 t6 t7 t8 t9 t10 t11 t12 t13 t14 t15 t16 t17 t18 t19
theorem B.cong_next.r (a0 : Int) (a1 : Int) (b : Int) (c : Int) : runF P G (tab L_B.cong_Join) { merge := true } 60 Tryd.f67 [.agg #[.int .u64 a0, .int .u64 a1], .int .i64 b, .int .i64 c] = B.cong_next.c (fun q => some (.tuple #[.int .i64 (q).1, .bool (q).2] : Value)) a0 a1 b c := by kernel_rfl
theorem B.cong_next.t : TabOK P G (tab L_B.cong_next) :=
  TabOK_mk C B.cong_Join.t Tryd.func67 (by kernel_rfl) true 60 (by
    rintro ⟨⟨a0, ⟨a1, ⟨⟩⟩⟩, ⟨b, ⟨c, ⟨⟩⟩⟩⟩ h
    exact (B.cong_next.r a0 a1 b c).trans (B.cong_next.p (fun q => some (.tuple #[.int .i64 (q).1, .bool (q).2] : Value)) a0 a1 b c))

def B.cong_Up.c0 {γ : Type} (k : Int × Bool → γ) (a0 : Int) (a1 : Int) (b : Int) (t1 : Int × Bool) : γ := k (t1.fst, t1.snd)
def B.cong_Up.c {γ : Type} (k : Int × Bool → γ) (a0 : Int) (a1 : Int) (b : Int) : γ := let t1 := B.cong_next a0 a1 b 1; B.cong_Up.c0 k a0 a1 b t1
def B.cong_Up (a0 : Int) (a1 : Int) (b : Int) : Int × Bool := B.cong_Up.c id a0 a1 b
def B.cong_Up.F : FV := mkF (cP (cA (cP (cI .u64) (cP (cI .u64) cU))) (cP (cI .i64) cU)) (fun _ => true) (fun | ((a0, (a1, ())), (b, ())) => .tuple #[.int .i64 (B.cong_Up a0 a1 b).1, .bool (B.cong_Up a0 a1 b).2])
def L_B.cong_Up : TL := (52, B.cong_Up.F) :: L_B.cong_next
theorem B.cong_Up.p0 {γ : Type} (k : Int × Bool → γ) (a0 : Int) (a1 : Int) (b : Int) (t1 : Int × Bool) : B.cong_Up.c0 k a0 a1 b t1 = k (B.cong_Up.c0 id a0 a1 b t1) := by
  unfold B.cong_Up.c0; (repeat' (first | (apply pc k) | (exact rfl)))
theorem B.cong_Up.p {γ : Type} (k : Int × Bool → γ) (a0 : Int) (a1 : Int) (b : Int) : B.cong_Up.c k a0 a1 b = k (B.cong_Up a0 a1 b) :=
  let t1 := B.cong_next a0 a1 b 1; B.cong_Up.p0 k a0 a1 b t1
theorem B.cong_Up.r (a0 : Int) (a1 : Int) (b : Int) : runF P G (tab L_B.cong_next) { merge := true } 60 Tryd.f52 [.agg #[.int .u64 a0, .int .u64 a1], .int .i64 b] = B.cong_Up.c (fun q => some (.tuple #[.int .i64 (q).1, .bool (q).2] : Value)) a0 a1 b := by kernel_rfl
theorem B.cong_Up.t : TabOK P G (tab L_B.cong_Up) :=
  TabOK_mk C B.cong_next.t Tryd.func52 (by kernel_rfl) true 60 (by
    rintro ⟨⟨a0, ⟨a1, ⟨⟩⟩⟩, ⟨b, ⟨⟩⟩⟩ h
    exact (B.cong_Up.r a0 a1 b).trans (B.cong_Up.p (fun q => some (.tuple #[.int .i64 (q).1, .bool (q).2] : Value)) a0 a1 b))

def B.cong_Down.c0 {γ : Type} (k : Int × Bool → γ) (a0 : Int) (a1 : Int) (b : Int) (t1 : Int × Bool) : γ := k (t1.fst, t1.snd)
def B.cong_Down.c {γ : Type} (k : Int × Bool → γ) (a0 : Int) (a1 : Int) (b : Int) : γ := let t1 := B.cong_next a0 a1 b (-1); B.cong_Down.c0 k a0 a1 b t1
def B.cong_Down (a0 : Int) (a1 : Int) (b : Int) : Int × Bool := B.cong_Down.c id a0 a1 b
def B.cong_Down.F : FV := mkF (cP (cA (cP (cI .u64) (cP (cI .u64) cU))) (cP (cI .i64) cU)) (fun _ => true) (fun | ((a0, (a1, ())), (b, ())) => .tuple #[.int .i64 (B.cong_Down a0 a1 b).1, .bool (B.cong_Down a0 a1 b).2])
def L_B.cong_Down : TL := (53, B.cong_Down.F) :: L_B.cong_Up
theorem B.cong_Down.p0 {γ : Type} (k : Int × Bool → γ) (a0 : Int) (a1 : Int) (b : Int) (t1 : Int × Bool) : B.cong_Down.c0 k a0 a1 b t1 = k (B.cong_Down.c0 id a0 a1 b t1) := by
  unfold B.cong_Down.c0; (repeat' (first | (apply pc k) | (exact rfl)))
theorem B.cong_Down.p {γ : Type} (k : Int × Bool → γ) (a0 : Int) (a1 : Int) (b : Int) : B.cong_Down.c k a0 a1 b = k (B.cong_Down a0 a1 b) :=
  let t1 := B.cong_next a0 a1 b (-1); B.cong_Down.p0 k a0 a1 b t1
theorem B.cong_Down.r (a0 : Int) (a1 : Int) (b : Int) : runF P G (tab L_B.cong_Up) { merge := true } 60 Tryd.f53 [.agg #[.int .u64 a0, .int .u64 a1], .int .i64 b] = B.cong_Down.c (fun q => some (.tuple #[.int .i64 (q).1, .bool (q).2] : Value)) a0 a1 b := by kernel_rfl
theorem B.cong_Down.t : TabOK P G (tab L_B.cong_Down) :=
  TabOK_mk C B.cong_Up.t Tryd.func53 (by kernel_rfl) true 60 (by
    rintro ⟨⟨a0, ⟨a1, ⟨⟩⟩⟩, ⟨b, ⟨⟩⟩⟩ h
    exact (B.cong_Down.r a0 a1 b).trans (B.cong_Down.p (fun q => some (.tuple #[.int .i64 (q).1, .bool (q).2] : Value)) a0 a1 b))

def B.cong_Meet0.c0 {γ : Type} (k : Int × Int × Bool → γ) (a1 : Int) (b0 : Int) (b1 : Int) (t1 : Int × Int) (t2 : Int × Int) (t3 : Int) (t4 : Bool) : γ := bif t4
  then k (t2.fst, t2.snd, true)
  else k (0, 0, false)
def B.cong_Meet0.c {γ : Type} (k : Int × Int × Bool → γ) (a1 : Int) (b0 : Int) (b1 : Int) : γ := let t1 := B.cong_Norm b0 b1; let t2 := B.cong_Norm 0 a1; let t3 := IntKind.i64.wrap t2.snd; let t4 := B.cong_Has t1.fst t1.snd t3; B.cong_Meet0.c0 k a1 b0 b1 t1 t2 t3 t4
def B.cong_Meet0 (a1 : Int) (b0 : Int) (b1 : Int) : Int × Int × Bool := B.cong_Meet0.c id a1 b0 b1
def B.cong_Meet0.F : FV := mkF (cP (cA (cP (cI .u64) (cP (cI .u64) cU))) (cP (cA (cP (cI .u64) (cP (cI .u64) cU))) cU)) (fun | ((a0, (a1, ())), ((b0, (b1, ())), ())) => decide (a0 = 0) && true) (fun | ((a0, (a1, ())), ((b0, (b1, ())), ())) => .tuple #[.agg #[.int .u64 (B.cong_Meet0 a1 b0 b1).1, .int .u64 (B.cong_Meet0 a1 b0 b1).2.1], .bool (B.cong_Meet0 a1 b0 b1).2.2])
def L_B.cong_Meet0 : TL := (42, B.cong_Meet0.F) :: L_B.cong_Down
theorem B.cong_Meet0.p0 {γ : Type} (k : Int × Int × Bool → γ) (a1 : Int) (b0 : Int) (b1 : Int) (t1 : Int × Int) (t2 : Int × Int) (t3 : Int) (t4 : Bool) : B.cong_Meet0.c0 k a1 b0 b1 t1 t2 t3 t4 = k (B.cong_Meet0.c0 id a1 b0 b1 t1 t2 t3 t4) := by
  unfold B.cong_Meet0.c0; (repeat' (first | (apply pc k) | (exact rfl)))
theorem B.cong_Meet0.p {γ : Type} (k : Int × Int × Bool → γ) (a1 : Int) (b0 : Int) (b1 : Int) : B.cong_Meet0.c k a1 b0 b1 = k (B.cong_Meet0 a1 b0 b1) :=
  let t1 := B.cong_Norm b0 b1; let t2 := B.cong_Norm 0 a1; let t3 := IntKind.i64.wrap t2.snd; let t4 := B.cong_Has t1.fst t1.snd t3; B.cong_Meet0.p0 k a1 b0 b1 t1 t2 t3 t4
theorem B.cong_Meet0.r (a1 : Int) (b0 : Int) (b1 : Int) : runF P G (tab L_B.cong_Down) { merge := true } 60 Tryd.f42 [.agg #[.int .u64 0, .int .u64 a1], .agg #[.int .u64 b0, .int .u64 b1]] = B.cong_Meet0.c (fun q => some (.tuple #[.agg #[.int .u64 (q).1, .int .u64 (q).2.1], .bool (q).2.2] : Value)) a1 b0 b1 := by kernel_rfl
theorem B.cong_Meet0.t : TabOK P G (tab L_B.cong_Meet0) :=
  TabOK_mk C B.cong_Down.t Tryd.func42 (by kernel_rfl) true 60 (by
    rintro ⟨⟨a0, ⟨a1, ⟨⟩⟩⟩, ⟨⟨b0, ⟨b1, ⟨⟩⟩⟩, ⟨⟩⟩⟩ h
    simp only [Bool.and_eq_true, decide_eq_true_eq] at h
    obtain ⟨rfl, h⟩ := h
    exact (B.cong_Meet0.r a1 b0 b1).trans (B.cong_Meet0.p (fun q => some (.tuple #[.agg #[.int .u64 (q).1, .int .u64 (q).2.1], .bool (q).2.2] : Value)) a1 b0 b1))

def B.cong_Meet.c0 {γ : Type} (n : γ) (k : Int × Int × Bool → γ) (a0 : Int) (a1 : Int) (b0 : Int) (b1 : Int) (t1 : Int × Int) (t2 : Bool) (t3 : Int × Int) (t4 : Int) (t5 : Bool) (t6 : Bool) (t7 : Int × Int × Bool) (t8 : Bool) (t9 : Int) (t10 : Bool) (t11 : Int) (t12 : Int) (t13 : Int) (t14 : Bool) (t15 : Int) (t16 : Int) (t17 : Int) (t18 : Int) (t19 : Int) (t20 : Int) (t21 : Int) (t22 : Bool) (t23 : Int × Int) (t24 : Int) (t25 : Int × Int) (t26 : Int × Int) (t27 : Int) (t28 : Int) (t29 : Int × Int) (t30 : Int) (t31 : Int × Int) (t32 : Int) (t33 : Int) (t34 : Int) (t35 : Int × Int) : γ := bif t2
  then bif t5
   then k (t1.fst, t1.snd, true)
   else k (0, 0, false)
  else bif t6
   then bif decide (t3.fst = 0) && true
    then k (t7.fst, t7.snd.fst, t7.snd.snd)
    else n
   else bif t8
    then bif t10
     then bif !decide (t11 = 0)
      then bif !decide (t11 = 0)
       then bif t1.snd.tmod t11 != t3.snd.tmod t11
        then k (0, 0, false)
        else bif !decide (t11 = 0)
         then bif !decide (t11 = 0)
          then bif !decide (t12 = 0)
           then bif !decide (t11 = 0)
            then bif t14
             then bif t22
              then bif t23.fst == 0
               then k (t23.snd, t26.fst, true)
               else bif t27 == 0
                then bif decide (t26.fst ≤ 9223372036854775807)
                 then k (t29.fst, t29.snd, true)
                 else bif t32 == 0
                  then bif decide (t31.fst ≤ 9223372036854775808)
                   then k (t35.fst, t35.snd, true)
                   else k (0, 0, false)
                  else k (0, 0, false)
                else bif t32 == 0
                 then bif decide (t31.fst ≤ 9223372036854775808)
                  then k (t35.fst, t35.snd, true)
                  else k (0, 0, false)
                 else k (0, 0, false)
              else n
             else n
            else n
           else n
          else n
         else n
       else n
      else n
     else n
    else n
def B.cong_Meet.c {γ : Type} (n : γ) (k : Int × Int × Bool → γ) (a0 : Int) (a1 : Int) (b0 : Int) (b1 : Int) : γ := let t1 := B.cong_Norm a0 a1; let t2 := B.cong_alone t1.fst t1.snd; let t3 := B.cong_Norm b0 b1; let t4 := IntKind.i64.wrap t1.snd; let t5 := B.cong_Has t3.fst t3.snd t4; let t6 := B.cong_alone t3.fst t3.snd; let t7 := B.cong_Meet0 t3.snd t1.fst t1.snd; let t8 := word_Gcd.g 0 t1.fst; let t9 := word_Gcd 0 t1.fst; let t10 := word_Gcd.g t9 t3.fst; let t11 := word_Gcd t9 t3.fst; let t12 := IntKind.u64.wrap (t3.fst.tdiv t11); let t13 := IntKind.u64.wrap (t1.fst.tdiv t11); let t14 := B.cong_inverse.g t13 t12; let t15 := if t3.snd > t1.snd then t3.snd else t1.snd; let t16 := if t3.snd < t1.snd then t3.snd else t1.snd; let t17 := IntKind.u64.wrap (t15 - t16); let t18 := IntKind.u64.wrap (t17.tdiv t11); let t19 := B.cong_minus 0 (t18.tmod t12) t12; let t20 := bif decide (t3.snd < t1.snd) then t19 else t18.tmod t12; let t21 := B.cong_inverse t13 t12; let t22 := B.cong_times.ok t20 t21 t12; let t23 := bits_Mul64 t12 t1.fst; let t24 := B.cong_times t20 t21 t12; let t25 := bits_Mul64 t24 t1.fst; let t26 := bits_Add64 t25.snd t1.snd 0; let t27 := IntKind.u64.wrap (t25.fst + t26.snd); let t28 := IntKind.i64.wrap t26.fst; let t29 := B.cong_Const t28; let t30 := IntKind.u64.wrap (t23.fst - t27); let t31 := bits_Sub64 t23.snd t26.fst 0; let t32 := IntKind.u64.wrap (t30 - t31.snd); let t33 := IntKind.u64.wrap (0 - t31.fst); let t34 := IntKind.i64.wrap t33; let t35 := B.cong_Const t34; B.cong_Meet.c0 n k a0 a1 b0 b1 t1 t2 t3 t4 t5 t6 t7 t8 t9 t10 t11 t12 t13 t14 t15 t16 t17 t18 t19 t20 t21 t22 t23 t24 t25 t26 t27 t28 t29 t30 t31 t32 t33 t34 t35
def B.cong_Meet.ok (a0 : Int) (a1 : Int) (b0 : Int) (b1 : Int) : Bool := B.cong_Meet.c false (fun _ => true) a0 a1 b0 b1
def B.cong_Meet (a0 : Int) (a1 : Int) (b0 : Int) (b1 : Int) : Int × Int × Bool := B.cong_Meet.c (0, 0, false) id a0 a1 b0 b1
def B.cong_Meet.F : FV := mkF (cP (cA (cP (cI .u64) (cP (cI .u64) cU))) (cP (cA (cP (cI .u64) (cP (cI .u64) cU))) cU)) (fun | ((a0, (a1, ())), ((b0, (b1, ())), ())) => B.cong_Meet.ok a0 a1 b0 b1) (fun | ((a0, (a1, ())), ((b0, (b1, ())), ())) => .tuple #[.agg #[.int .u64 (B.cong_Meet a0 a1 b0 b1).1, .int .u64 (B.cong_Meet a0 a1 b0 b1).2.1], .bool (B.cong_Meet a0 a1 b0 b1).2.2])
def L_B.cong_Meet : TL := (42, B.cong_Meet.F) :: L_B.cong_Meet0
theorem B.cong_Meet.p0 {γ : Type} (k : Int × Int × Bool → γ) (a0 : Int) (a1 : Int) (b0 : Int) (b1 : Int) (t1 : Int × Int) (t2 : Bool) (t3 : Int × Int) (t4 : Int) (t5 : Bool) (t6 : Bool) (t7 : Int × Int × Bool) (t8 : Bool) (t9 : Int) (t10 : Bool) (t11 : Int) (t12 : Int) (t13 : Int) (t14 : Bool) (t15 : Int) (t16 : Int) (t17 : Int) (t18 : Int) (t19 : Int) (t20 : Int) (t21 : Int) (t22 : Bool) (t23 : Int × Int) (t24 : Int) (t25 : Int × Int) (t26 : Int × Int) (t27 : Int) (t28 : Int) (t29 : Int × Int) (t30 : Int) (t31 : Int × Int) (t32 : Int) (t33 : Int) (t34 : Int) (t35 : Int × Int) : B.cong_Meet.c0 false (fun _ => true) a0 a1 b0 b1 t1 t2 t3 t4 t5 t6 t7 t8 t9 t10 t11 t12 t13 t14 t15 t16 t17 t18 t19 t20 t21 t22 t23 t24 t25 t26 t27 t28 t29 t30 t31 t32 t33 t34 t35 = true → B.cong_Meet.c0 none (fun q => some (k q)) a0 a1 b0 b1 t1 t2 t3 t4 t5 t6 t7 t8 t9 t10 t11 t12 t13 t14 t15 t16 t17 t18 t19 t20 t21 t22 t23 t24 t25 t26 t27 t28 t29 t30 t31 t32 t33 t34 t35 = some (k (B.cong_Meet.c0 (0, 0, false) id a0 a1 b0 b1 t1 t2 t3 t4 t5 t6 t7 t8 t9 t10 t11 t12 t13 t14 t15 t16 t17 t18 t19 t20 t21 t22 t23 t24 t25 t26 t27 t28 t29 t30 t31 t32 t33 t34 t35)) := by
  unfold B.cong_Meet.c0; (repeat' (first | (apply pn k) | (exact pn_none _ _) | (exact pn_leaf k _)))
theorem B.cong_Meet.p {γ : Type} (k : Int × Int × Bool → γ) (a0 : Int) (a1 : Int) (b0 : Int) (b1 : Int) (h : B.cong_Meet.ok a0 a1 b0 b1 = true) : B.cong_Meet.c none (fun q => some (k q)) a0 a1 b0 b1 = some (k (B.cong_Meet a0 a1 b0 b1)) :=
  let t1 := B.cong_Norm a0 a1; let t2 := B.cong_alone t1.fst t1.snd; let t3 := B.cong_Norm b0 b1; let t4 := IntKind.i64.wrap t1.snd; let t5 := B.cong_Has t3.fst t3.snd t4; let t6 := B.cong_alone t3.fst t3.snd; let t7 := B.cong_Meet0 t3.snd t1.fst t1.snd; let t8 := word_Gcd.g 0 t1.fst; let t9 := word_Gcd 0 t1.fst; let t10 := word_Gcd.g t9 t3.fst; let t11 := word_Gcd t9 t3.fst; let t12 := IntKind.u64.wrap (t3.fst.tdiv t11); let t13 := IntKind.u64.wrap (t1.fst.tdiv t11); let t14 := B.cong_inverse.g t13 t12; let t15 := if t3.snd > t1.snd then t3.snd else t1.snd; let t16 := if t3.snd < t1.snd then t3.snd else t1.snd; let t17 := IntKind.u64.wrap (t15 - t16); let t18 := IntKind.u64.wrap (t17.tdiv t11); let t19 := B.cong_minus 0 (t18.tmod t12) t12; let t20 := bif decide (t3.snd < t1.snd) then t19 else t18.tmod t12; let t21 := B.cong_inverse t13 t12; let t22 := B.cong_times.ok t20 t21 t12; let t23 := bits_Mul64 t12 t1.fst; let t24 := B.cong_times t20 t21 t12; let t25 := bits_Mul64 t24 t1.fst; let t26 := bits_Add64 t25.snd t1.snd 0; let t27 := IntKind.u64.wrap (t25.fst + t26.snd); let t28 := IntKind.i64.wrap t26.fst; let t29 := B.cong_Const t28; let t30 := IntKind.u64.wrap (t23.fst - t27); let t31 := bits_Sub64 t23.snd t26.fst 0; let t32 := IntKind.u64.wrap (t30 - t31.snd); let t33 := IntKind.u64.wrap (0 - t31.fst); let t34 := IntKind.i64.wrap t33; let t35 := B.cong_Const t34; B.cong_Meet.p0 k a0 a1 b0 b1 t1 t2 t3 t4 t5 t6 t7 t8 t9 t10 t11 t12 t13 t14 t15 t16 t17 t18 t19 t20 t21 t22 t23 t24 t25 t26 t27 t28 t29 t30 t31 t32 t33 t34 t35 h
theorem B.cong_Meet.r (a0 : Int) (a1 : Int) (b0 : Int) (b1 : Int) : runF P G (tab L_B.cong_Meet0) { merge := true } 60 Tryd.f42 [.agg #[.int .u64 a0, .int .u64 a1], .agg #[.int .u64 b0, .int .u64 b1]] = B.cong_Meet.c none (fun q => some (.tuple #[.agg #[.int .u64 (q).1, .int .u64 (q).2.1], .bool (q).2.2] : Value)) a0 a1 b0 b1 := by kernel_rfl
theorem B.cong_Meet.t : TabOK P G (tab L_B.cong_Meet) :=
  TabOK_mk C B.cong_Meet0.t Tryd.func42 (by kernel_rfl) true 60 (by
    rintro ⟨⟨a0, ⟨a1, ⟨⟩⟩⟩, ⟨⟨b0, ⟨b1, ⟨⟩⟩⟩, ⟨⟩⟩⟩ h
    exact (B.cong_Meet.r a0 a1 b0 b1).trans (B.cong_Meet.p (fun q => (.tuple #[.agg #[.int .u64 (q).1, .int .u64 (q).2.1], .bool (q).2.2] : Value)) a0 a1 b0 b1 h))

end
end Go.Proofs.YtmadebejnhinoaaDoor.V

