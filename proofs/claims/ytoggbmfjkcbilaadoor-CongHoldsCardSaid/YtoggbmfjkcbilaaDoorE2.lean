/- What the functions of this seat compute, told by evaluation of their code. Conditions: none. -/
import Derived.Test.YtoggbmfjkcbilaaDoorE1
set_option linter.unusedVariables false
set_option linter.unusedSimpArgs false
namespace Go.Proofs.YtoggbmfjkcbilaaDoor.V
open Go Go.Wk
noncomputable section

def word_Gcd.val (q : Int) : Value := .int .u64 (q)
def word_Gcd.h : List (Nat × List Nat × Nat) := [(1, [0, 1], 0)]
def word_Gcd.e0 (q : Int × Int) : St := { tmps := [.val (.int .u64 (q).1), .val (.int .u64 (q).2), .unk, .unk, .unk, .unk, .unk, .unk, .unk, .unk, .unk, .unk], blks := [], saved := [] }
noncomputable def word_Gcd.B0 : Code := loopAt [1, 0, 0] (fbody Tryd.f84)
noncomputable def word_Gcd.H (F0 : LSum) : Heads := { heads := word_Gcd.h, merge := true, sums := [(1, F0)] }
noncomputable def word_Gcd.H0  : Heads := { heads := word_Gcd.h, merge := true, sums := [] }
noncomputable def word_Gcd.K0 (F0 : LSum) : Xt → St → Option Value := kAt P GS (tab L_word_Even) (word_Gcd.H F0) [1, 0, 0] 60 (fbody Tryd.f84) (retK P GS Tryd.f84)
def word_Gcd.l0.c {γ : Type} (k0 : Int × Int → Option γ) (k : Int → Option γ) (s0 : Int) (s1 : Int) : Option γ := bif s1 != 0
  then bif !decide (s1 = 0)
   then k0 (s1, s0.tmod s1)
   else none
  else k (s0)
def word_Gcd.c {γ : Type} (k0 : Int × Int → Option γ) (k : Int → Option γ) (a : Int) (b : Int) : Option γ := k0 (a, b)
def word_Gcd.L0 (N : Nat)  : Nat → Int × Int → Option (Int)
  | 0, _ => none
  | m + 1, q => word_Gcd.l0.c (word_Gcd.L0 N m) some (q).1 (q).2
def word_Gcd.o (N : Nat) (a : Int) (b : Int) : Option (Int) := word_Gcd.c (word_Gcd.L0 N  N) some a b
noncomputable def word_Gcd.S0 (N : Nat) : LSum := sumN P GS (tab L_word_Even) (word_Gcd.H0 ) 60 word_Gcd.B0 N
theorem word_Gcd.l0.p {γ δ : Type} (f : γ → δ) (k0 : Int × Int → Option γ) (k : Int → Option γ) (s0 : Int) (s1 : Int) : word_Gcd.l0.c (fun q => (k0 q).map f) (fun q => (k q).map f) s0 s1 = (word_Gcd.l0.c k0 k s0 s1).map f := by
  unfold word_Gcd.l0.c; (repeat' (first | (apply pm f) | (exact rfl)))
theorem word_Gcd.p {γ δ : Type} (f : γ → δ) (k0 : Int × Int → Option γ) (k : Int → Option γ) (a : Int) (b : Int) : word_Gcd.c (fun q => (k0 q).map f) (fun q => (k q).map f) a b = (word_Gcd.c k0 k a b).map f := by
  unfold word_Gcd.c; (repeat' (first | (apply pm f) | (exact rfl)))
theorem word_Gcd.S0.ok (N : Nat) : LoopsOK P GS (word_Gcd.H0 ).sums word_Gcd.B0 := by
  refine LoopsOK_code fun i hi F hF => ?_
  have hlen : (loopsOf word_Gcd.B0).length = 0 := by kernel_rfl
  rw [hlen] at hi
  omega

theorem word_Gcd.S0.snd (N : Nat) : SoundL P GS word_Gcd.B0 (word_Gcd.S0 N) := sumN_sound CS.mixed CS.names word_Even.t (word_Gcd.S0.ok N) N
theorem word_Gcd.l0.r (F0 G0 : LSum) (s0 : Int) (s1 : Int) : ex P GS (tab L_word_Even) (word_Gcd.H0 ) 60 word_Gcd.B0 (word_Gcd.e0 (s0, s1)) (roundK (word_Gcd.H0 ) word_Gcd.B0 G0 (word_Gcd.K0 F0)) = word_Gcd.l0.c (fun q => G0.run (word_Gcd.e0 q) (word_Gcd.K0 F0)) (fun q => some (word_Gcd.val q)) s0 s1 := by kernel_rfl
theorem word_Gcd.r (F0 : LSum) (a : Int) (b : Int) : runF P GS (tab L_word_Even) (word_Gcd.H F0) 60 Tryd.f84 [.int .u64 a, .int .u64 b] = word_Gcd.c (fun q => F0.run (word_Gcd.e0 q) (word_Gcd.K0 F0)) (fun q => some (word_Gcd.val q)) a b := by kernel_rfl
theorem word_Gcd.L0.ok (N : Nat) (F0 : LSum)   : ∀ m q, (sumN P GS (tab L_word_Even) (word_Gcd.H0 ) 60 word_Gcd.B0 m).run (word_Gcd.e0 q) (word_Gcd.K0 F0) = (word_Gcd.L0 N  m q).map word_Gcd.val
  | 0, q => rfl
  | m + 1, q => by
    have ih := word_Gcd.L0.ok N F0   m
    refine (sumN_run (n := m) rfl).trans ((word_Gcd.l0.r F0 (sumN P GS (tab L_word_Even) (word_Gcd.H0 ) 60 word_Gcd.B0 m) (q).1 (q).2).trans ?_)
    refine Eq.trans ?_ (word_Gcd.l0.p word_Gcd.val (word_Gcd.L0 N m) some (q).1 (q).2)
    have e0 : (fun q => (sumN P GS (tab L_word_Even) (word_Gcd.H0 ) 60 word_Gcd.B0 m).run (word_Gcd.e0 q) (word_Gcd.K0 F0)) = (fun q => ((word_Gcd.L0 N m) q).map word_Gcd.val) := funext ih
    rw [e0]; rfl

theorem word_Gcd.q (N : Nat) (a : Int) (b : Int) : runF P GS (tab L_word_Even) (word_Gcd.H (word_Gcd.S0 N)) 60 Tryd.f84 [.int .u64 a, .int .u64 b] = (word_Gcd.o N a b).map word_Gcd.val := by
  have hk0 := word_Gcd.L0.ok N (word_Gcd.S0 N)   N
  refine (word_Gcd.r (word_Gcd.S0 N) a b).trans ?_
  refine Eq.trans ?_ (word_Gcd.p word_Gcd.val (word_Gcd.L0 N  N) some a b)
  have e0 : (fun q => (word_Gcd.S0 N).run (word_Gcd.e0 q) (word_Gcd.K0 (word_Gcd.S0 N))) = (fun q => ((word_Gcd.L0 N  N) q).map word_Gcd.val) := funext hk0
  rw [e0]; rfl

theorem word_Gcd.lok (N : Nat) : LoopsOK P GS (word_Gcd.H (word_Gcd.S0 N)).sums (fbody Tryd.f84) := by
  refine LoopsOK_code fun i hi F hF => ?_
  have hlen : (loopsOf (fbody Tryd.f84)).length = 1 := by kernel_rfl
  rw [hlen] at hi
  match i, hi with
  | 0, _ => exact soundAt (B' := word_Gcd.B0) (by kernel_rfl) (by kernel_rfl) (word_Gcd.S0.snd N) hF
  | _ + 1, h => omega

def word_Gcd (a : Int) (b : Int) : Int := hide ((word_Gcd.o (b.toNat + 2) a b).getD (0))
def word_Gcd.g (a : Int) (b : Int) : Bool := hide (word_Gcd.o (b.toNat + 2) a b).isSome
theorem word_Gcd.s (a : Int) (b : Int) (h : word_Gcd.g a b = true) : word_Gcd.o (b.toNat + 2) a b = some (word_Gcd a b) := by
  unfold word_Gcd.g at h; unfold word_Gcd; simp only [hide_eq] at h ⊢; revert h; cases word_Gcd.o (b.toNat + 2) a b <;> simp
def word_Gcd.F : FV := mkF (cP (cI .u64) (cP (cI .u64) cU)) (fun | (a, (b, ())) => word_Gcd.g a b) (fun | (a, (b, ())) => word_Gcd.val (word_Gcd a b))
def L_word_Gcd : TL := (84, word_Gcd.F) :: L_word_Even
theorem word_Gcd.t : TabOK P GS (tab L_word_Gcd) :=
  TabOK_mkH CS word_Even.t Tryd.func84 (by kernel_rfl) (fun | (_, (b, ())) => word_Gcd.H (word_Gcd.S0 (b.toNat + 2))) (by rintro ⟨a, ⟨b, ⟨⟩⟩⟩; exact word_Gcd.lok _) 60 (by
    rintro ⟨a, ⟨b, ⟨⟩⟩⟩ h
    exact (word_Gcd.q (b.toNat + 2) a b).trans (congrArg (Option.map word_Gcd.val) (word_Gcd.s a b h)))

def cong_rest.c0 {γ : Type} (n : γ) (k : Int → γ) (a0 : Int) (a1 : Int) (b : Int) (t1 : Bool) (t2 : Int) (t3 : Int) : γ := bif t1
  then k (t3)
  else bif b == 0
   then k (a1)
   else bif !decide (b = 0)
    then k (a1.tmod b)
    else n
def cong_rest.c {γ : Type} (n : γ) (k : Int → γ) (a0 : Int) (a1 : Int) (b : Int) : γ := let t1 := cong_alone a0 a1; let t2 := IntKind.i64.wrap a1; let t3 := word_Mod t2 b; cong_rest.c0 n k a0 a1 b t1 t2 t3
def cong_rest.ok (a0 : Int) (a1 : Int) (b : Int) : Bool := cong_rest.c false (fun _ => true) a0 a1 b
def cong_rest (a0 : Int) (a1 : Int) (b : Int) : Int := cong_rest.c (0) id a0 a1 b
def cong_rest.F : FV := mkF (cP (cA (cP (cI .u64) (cP (cI .u64) cU))) (cP (cI .u64) cU)) (fun _ => true) (fun | ((a0, (a1, ())), (b, ())) => .int .u64 (cong_rest a0 a1 b))
def L_cong_rest : TL := (48, cong_rest.F) :: L_word_Gcd
theorem cong_rest.okt (a0 : Int) (a1 : Int) (b : Int) : cong_rest.ok a0 a1 b = true := by
  unfold cong_rest.ok cong_rest.c cong_rest.c0; cases cong_alone a0 a1 <;> by_cases h : b = 0 <;> simp [h]
theorem cong_rest.p0 {γ : Type} (k : Int → γ) (a0 : Int) (a1 : Int) (b : Int) (t1 : Bool) (t2 : Int) (t3 : Int) : cong_rest.c0 false (fun _ => true) a0 a1 b t1 t2 t3 = true → cong_rest.c0 none (fun q => some (k q)) a0 a1 b t1 t2 t3 = some (k (cong_rest.c0 (0) id a0 a1 b t1 t2 t3)) := by
  unfold cong_rest.c0; (repeat' (first | (apply pn k) | (exact pn_none _ _) | (exact pn_leaf k _)))
theorem cong_rest.p {γ : Type} (k : Int → γ) (a0 : Int) (a1 : Int) (b : Int) (h : cong_rest.ok a0 a1 b = true) : cong_rest.c none (fun q => some (k q)) a0 a1 b = some (k (cong_rest a0 a1 b)) :=
  let t1 := cong_alone a0 a1; let t2 := IntKind.i64.wrap a1; let t3 := word_Mod t2 b; cong_rest.p0 k a0 a1 b t1 t2 t3 h
theorem cong_rest.r (a0 : Int) (a1 : Int) (b : Int) : runF P GS (tab L_word_Gcd) { merge := true } 60 Tryd.f48 [.agg #[.int .u64 a0, .int .u64 a1], .int .u64 b] = cong_rest.c none (fun q => some (.int .u64 (q) : Value)) a0 a1 b := by kernel_rfl
theorem cong_rest.t : TabOK P GS (tab L_cong_rest) :=
  TabOK_mk CS word_Gcd.t Tryd.func48 (by kernel_rfl) true 60 (by
    rintro ⟨⟨a0, ⟨a1, ⟨⟩⟩⟩, ⟨b, ⟨⟩⟩⟩ h
    exact (cong_rest.r a0 a1 b).trans (cong_rest.p (fun q => (.int .u64 (q) : Value)) a0 a1 b (cong_rest.okt a0 a1 b)))

def cong_two.c0 {γ : Type} (k : Int → γ) (a : Int) (t1 : Int) : γ := bif a == 0
  then k (9223372036854775808)
  else k (t1)
def cong_two.c {γ : Type} (k : Int → γ) (a : Int) : γ := let t1 := word_Even a; cong_two.c0 k a t1
def cong_two (a : Int) : Int := cong_two.c id a
def cong_two.F : FV := mkF (cP (cI .u64) cU) (fun _ => true) (fun | (a, ()) => .int .u64 (cong_two a))
def L_cong_two : TL := (89, cong_two.F) :: L_cong_rest
theorem cong_two.p0 {γ : Type} (k : Int → γ) (a : Int) (t1 : Int) : cong_two.c0 k a t1 = k (cong_two.c0 id a t1) := by
  unfold cong_two.c0; (repeat' (first | (apply pc k) | (exact rfl)))
theorem cong_two.p {γ : Type} (k : Int → γ) (a : Int) : cong_two.c k a = k (cong_two a) :=
  let t1 := word_Even a; cong_two.p0 k a t1
theorem cong_two.r (a : Int) : runF P GS (tab L_cong_rest) { merge := true } 60 Tryd.f89 [.int .u64 a] = cong_two.c (fun q => some (.int .u64 (q) : Value)) a := by kernel_rfl
theorem cong_two.t : TabOK P GS (tab L_cong_two) :=
  TabOK_mk CS cong_rest.t Tryd.func89 (by kernel_rfl) true 60 (by
    rintro ⟨a, ⟨⟩⟩ h
    exact (cong_two.r a).trans (cong_two.p (fun q => some (.int .u64 (q) : Value)) a))

def cong_minus.c0 {γ : Type} (k : Int → γ) (a : Int) (b : Int) (c : Int) (t1 : Int) (t2 : Int) (t3 : Int) : γ := bif decide (a ≥ b)
  then k (t1)
  else k (t3)
def cong_minus.c {γ : Type} (k : Int → γ) (a : Int) (b : Int) (c : Int) : γ := let t1 := IntKind.u64.wrap (a - b); let t2 := IntKind.u64.wrap (c - b); let t3 := IntKind.u64.wrap (t2 + a); cong_minus.c0 k a b c t1 t2 t3
def cong_minus (a : Int) (b : Int) (c : Int) : Int := cong_minus.c id a b c
def cong_minus.F : FV := mkF (cP (cI .u64) (cP (cI .u64) (cP (cI .u64) cU))) (fun _ => true) (fun | (a, (b, (c, ()))) => .int .u64 (cong_minus a b c))
def L_cong_minus : TL := (42, cong_minus.F) :: L_cong_two
theorem cong_minus.p0 {γ : Type} (k : Int → γ) (a : Int) (b : Int) (c : Int) (t1 : Int) (t2 : Int) (t3 : Int) : cong_minus.c0 k a b c t1 t2 t3 = k (cong_minus.c0 id a b c t1 t2 t3) := by
  unfold cong_minus.c0; (repeat' (first | (apply pc k) | (exact rfl)))
theorem cong_minus.p {γ : Type} (k : Int → γ) (a : Int) (b : Int) (c : Int) : cong_minus.c k a b c = k (cong_minus a b c) :=
  let t1 := IntKind.u64.wrap (a - b); let t2 := IntKind.u64.wrap (c - b); let t3 := IntKind.u64.wrap (t2 + a); cong_minus.p0 k a b c t1 t2 t3
theorem cong_minus.r (a : Int) (b : Int) (c : Int) : runF P GS (tab L_cong_two) { merge := true } 60 Tryd.f42 [.int .u64 a, .int .u64 b, .int .u64 c] = cong_minus.c (fun q => some (.int .u64 (q) : Value)) a b c := by kernel_rfl
theorem cong_minus.t : TabOK P GS (tab L_cong_minus) :=
  TabOK_mk CS cong_two.t Tryd.func42 (by kernel_rfl) true 60 (by
    rintro ⟨a, ⟨b, ⟨c, ⟨⟩⟩⟩⟩ h
    exact (cong_minus.r a b c).trans (cong_minus.p (fun q => some (.int .u64 (q) : Value)) a b c))

def cong_plus.c0 {γ : Type} (k : Int → γ) (a : Int) (b : Int) (c : Int) (t1 : Int) (t2 : Int) (t3 : Int) : γ := bif decide (b ≥ t1)
  then k (t2)
  else k (t3)
def cong_plus.c {γ : Type} (k : Int → γ) (a : Int) (b : Int) (c : Int) : γ := let t1 := IntKind.u64.wrap (c - a); let t2 := IntKind.u64.wrap (b - t1); let t3 := IntKind.u64.wrap (a + b); cong_plus.c0 k a b c t1 t2 t3
def cong_plus (a : Int) (b : Int) (c : Int) : Int := cong_plus.c id a b c
def cong_plus.F : FV := mkF (cP (cI .u64) (cP (cI .u64) (cP (cI .u64) cU))) (fun _ => true) (fun | (a, (b, (c, ()))) => .int .u64 (cong_plus a b c))
def L_cong_plus : TL := (71, cong_plus.F) :: L_cong_minus
theorem cong_plus.p0 {γ : Type} (k : Int → γ) (a : Int) (b : Int) (c : Int) (t1 : Int) (t2 : Int) (t3 : Int) : cong_plus.c0 k a b c t1 t2 t3 = k (cong_plus.c0 id a b c t1 t2 t3) := by
  unfold cong_plus.c0; (repeat' (first | (apply pc k) | (exact rfl)))
theorem cong_plus.p {γ : Type} (k : Int → γ) (a : Int) (b : Int) (c : Int) : cong_plus.c k a b c = k (cong_plus a b c) :=
  let t1 := IntKind.u64.wrap (c - a); let t2 := IntKind.u64.wrap (b - t1); let t3 := IntKind.u64.wrap (a + b); cong_plus.p0 k a b c t1 t2 t3
theorem cong_plus.r (a : Int) (b : Int) (c : Int) : runF P GS (tab L_cong_minus) { merge := true } 60 Tryd.f71 [.int .u64 a, .int .u64 b, .int .u64 c] = cong_plus.c (fun q => some (.int .u64 (q) : Value)) a b c := by kernel_rfl
theorem cong_plus.t : TabOK P GS (tab L_cong_plus) :=
  TabOK_mk CS cong_minus.t Tryd.func71 (by kernel_rfl) true 60 (by
    rintro ⟨a, ⟨b, ⟨c, ⟨⟩⟩⟩⟩ h
    exact (cong_plus.r a b c).trans (cong_plus.p (fun q => some (.int .u64 (q) : Value)) a b c))

def bits_Mul64.c0 {γ : Type} (k : Int × Int → γ) (a : Int) (b : Int) (t1 : Int) (t2 : Int) (t3 : Int) (t4 : Int) (t5 : Int) (t6 : Int) (t7 : Int) (t8 : Int) (t9 : Int) : γ := k (t8, t9)
def bits_Mul64.c {γ : Type} (k : Int × Int → γ) (a : Int) (b : Int) : γ := let t1 := IntKind.u64.wrap (a.fdiv (2 ^ min (Int.toNat 32) IntKind.u64.bits) * b.fdiv (2 ^ min (Int.toNat 32) IntKind.u64.bits)); let t2 := IntKind.u64.wrap (a.fdiv (2 ^ min (Int.toNat 32) IntKind.u64.bits) * andI IntKind.u64 b 4294967295); let t3 := IntKind.u64.wrap (andI IntKind.u64 a 4294967295 * andI IntKind.u64 b 4294967295); let t4 := IntKind.u64.wrap (t2 + t3.fdiv (2 ^ min (Int.toNat 32) IntKind.u64.bits)); let t5 := IntKind.u64.wrap (t1 + t4.fdiv (2 ^ min (Int.toNat 32) IntKind.u64.bits)); let t6 := IntKind.u64.wrap (andI IntKind.u64 a 4294967295 * b.fdiv (2 ^ min (Int.toNat 32) IntKind.u64.bits)); let t7 := IntKind.u64.wrap (andI IntKind.u64 t4 4294967295 + t6); let t8 := IntKind.u64.wrap (t5 + t7.fdiv (2 ^ min (Int.toNat 32) IntKind.u64.bits)); let t9 := IntKind.u64.wrap (a * b); bits_Mul64.c0 k a b t1 t2 t3 t4 t5 t6 t7 t8 t9
def bits_Mul64 (a : Int) (b : Int) : Int × Int := bits_Mul64.c id a b
def bits_Mul64.F : FV := mkF (cP (cI .u64) (cP (cI .u64) cU)) (fun _ => true) (fun | (a, (b, ())) => .tuple #[.int .u64 (bits_Mul64 a b).1, .int .u64 (bits_Mul64 a b).2])
def L_bits_Mul64 : TL := (45, bits_Mul64.F) :: L_cong_plus
theorem bits_Mul64.p0 {γ : Type} (k : Int × Int → γ) (a : Int) (b : Int) (t1 : Int) (t2 : Int) (t3 : Int) (t4 : Int) (t5 : Int) (t6 : Int) (t7 : Int) (t8 : Int) (t9 : Int) : bits_Mul64.c0 k a b t1 t2 t3 t4 t5 t6 t7 t8 t9 = k (bits_Mul64.c0 id a b t1 t2 t3 t4 t5 t6 t7 t8 t9) := by
  unfold bits_Mul64.c0; (repeat' (first | (apply pc k) | (exact rfl)))
theorem bits_Mul64.p {γ : Type} (k : Int × Int → γ) (a : Int) (b : Int) : bits_Mul64.c k a b = k (bits_Mul64 a b) :=
  let t1 := IntKind.u64.wrap (a.fdiv (2 ^ min (Int.toNat 32) IntKind.u64.bits) * b.fdiv (2 ^ min (Int.toNat 32) IntKind.u64.bits)); let t2 := IntKind.u64.wrap (a.fdiv (2 ^ min (Int.toNat 32) IntKind.u64.bits) * andI IntKind.u64 b 4294967295); let t3 := IntKind.u64.wrap (andI IntKind.u64 a 4294967295 * andI IntKind.u64 b 4294967295); let t4 := IntKind.u64.wrap (t2 + t3.fdiv (2 ^ min (Int.toNat 32) IntKind.u64.bits)); let t5 := IntKind.u64.wrap (t1 + t4.fdiv (2 ^ min (Int.toNat 32) IntKind.u64.bits)); let t6 := IntKind.u64.wrap (andI IntKind.u64 a 4294967295 * b.fdiv (2 ^ min (Int.toNat 32) IntKind.u64.bits)); let t7 := IntKind.u64.wrap (andI IntKind.u64 t4 4294967295 + t6); let t8 := IntKind.u64.wrap (t5 + t7.fdiv (2 ^ min (Int.toNat 32) IntKind.u64.bits)); let t9 := IntKind.u64.wrap (a * b); bits_Mul64.p0 k a b t1 t2 t3 t4 t5 t6 t7 t8 t9
theorem bits_Mul64.r (a : Int) (b : Int) : runF P GS (tab L_cong_plus) { merge := true } 60 Tryd.f45 [.int .u64 a, .int .u64 b] = bits_Mul64.c (fun q => some (.tuple #[.int .u64 (q).1, .int .u64 (q).2] : Value)) a b := by kernel_rfl
theorem bits_Mul64.t : TabOK P GS (tab L_bits_Mul64) :=
  TabOK_mk CS cong_plus.t Tryd.func45 (by kernel_rfl) true 60 (by
    rintro ⟨a, ⟨b, ⟨⟩⟩⟩ h
    exact (bits_Mul64.r a b).trans (bits_Mul64.p (fun q => some (.tuple #[.int .u64 (q).1, .int .u64 (q).2] : Value)) a b))

def bits_Add64 (a b c : Int) : Int × Int := (hide ((a.toNat + b.toNat + c.toNat) % 18446744073709551616 : Nat), hide ((a.toNat + b.toNat + c.toNat) / 18446744073709551616 : Nat))
def bits_Add64.F : FV := mkF (cP (cI .u64) (cP (cI .u64) (cP (cI .u64) cU))) (fun | (a, (b, (c, ()))) => decide (c.toNat ≤ 1)) (fun | (a, (b, (c, ()))) => .tuple #[.int .u64 (bits_Add64 a b c).1, .int .u64 (bits_Add64 a b c).2])
def L_bits_Add64 : TL := (46, bits_Add64.F) :: L_bits_Mul64
theorem bits_Add64.x (a b c : Int) (hc : c.toNat ≤ 1) (w : World) : (addEntry #[.int .u64 a, .int .u64 b, .int .u64 c]).run P w = .ok (.tuple #[.int .u64 (bits_Add64 a b c).1, .int .u64 (bits_Add64 a b c).2]) w := by
  unfold addEntry
  rw [Sem.run_bind, three_run _ a b c hc w]
  unfold bits_Add64; simp only [hide_eq]; rfl
theorem bits_Add64.t : TabOK P GS (tab L_bits_Add64) :=
  TabOK_ext bits_Mul64.t (by
    intro vs v w h
    obtain ⟨⟨a, b, c, _⟩, rfl, h1, rfl⟩ := mkF_inv h
    simp only [decide_eq_true_eq] at h1
    show (callFunc 46 #[.int .u64 a, .int .u64 b, .int .u64 c]).run P w = _
    rw [run_callFunc_extern Tryd.func46 (by kernel_rfl) (by kernel_rfl) (by kernel_rfl) (e := addEntry) (by kernel_rfl), bits_Add64.x a b c h1 w]
    rfl)

def bits_Sub64 (a b c : Int) : Int × Int := (hide ((a.toNat + 18446744073709551616 - b.toNat - c.toNat) % 18446744073709551616 : Nat), hide (if a.toNat < b.toNat + c.toNat then 1 else 0))
def bits_Sub64.F : FV := mkF (cP (cI .u64) (cP (cI .u64) (cP (cI .u64) cU))) (fun | (a, (b, (c, ()))) => decide (c.toNat ≤ 1)) (fun | (a, (b, (c, ()))) => .tuple #[.int .u64 (bits_Sub64 a b c).1, .int .u64 (bits_Sub64 a b c).2])
def L_bits_Sub64 : TL := (47, bits_Sub64.F) :: L_bits_Add64
theorem bits_Sub64.x (a b c : Int) (hc : c.toNat ≤ 1) (w : World) : (subEntry #[.int .u64 a, .int .u64 b, .int .u64 c]).run P w = .ok (.tuple #[.int .u64 (bits_Sub64 a b c).1, .int .u64 (bits_Sub64 a b c).2]) w := by
  unfold subEntry
  rw [Sem.run_bind, three_run _ a b c hc w]
  unfold bits_Sub64; simp only [hide_eq]
  by_cases h : a.toNat < b.toNat + c.toNat
  · simp only [if_pos h]; show Result.ok _ w = _; rw [if_pos h]; rfl
  · simp only [if_neg h]; show Result.ok _ w = _; rw [if_neg h]; rfl
theorem bits_Sub64.t : TabOK P GS (tab L_bits_Sub64) :=
  TabOK_ext bits_Add64.t (by
    intro vs v w h
    obtain ⟨⟨a, b, c, _⟩, rfl, h1, rfl⟩ := mkF_inv h
    simp only [decide_eq_true_eq] at h1
    show (callFunc 47 #[.int .u64 a, .int .u64 b, .int .u64 c]).run P w = _
    rw [run_callFunc_extern Tryd.func47 (by kernel_rfl) (by kernel_rfl) (by kernel_rfl) (e := subEntry) (by kernel_rfl), bits_Sub64.x a b c h1 w]
    rfl)

def bits_Len64.c0 {γ : Type} (n : γ) (k : Int → γ) (a : Int) (t1 : Int) (t2 : Int) (t3 : Int) (t4 : Int) (t5 : Int) (t6 : Int) (t7 : Int) (t8 : Int) (t9 : Int) (t10 : Int) (t11 : Int) : γ := bif decide (0 ≤ t4) && decide (t4 < ↑len8tab.size)
  then k (t11)
  else n
def bits_Len64.c {γ : Type} (n : γ) (k : Int → γ) (a : Int) : γ := let t1 := bif decide (a ≥ 4294967296) then a.fdiv (2 ^ min (Int.toNat 32) IntKind.u64.bits) else a; let t2 := bif decide (t1 ≥ 65536) then t1.fdiv (2 ^ min (Int.toNat 16) IntKind.u64.bits) else t1; let t3 := bif decide (t2 ≥ 256) then t2.fdiv (2 ^ min (Int.toNat 8) IntKind.u64.bits) else t2; let t4 := IntKind.u8.wrap t3; let t5 := bif decide (a ≥ 4294967296) then 32 else 0; let t6 := IntKind.i64.wrap (t5 + 16); let t7 := bif decide (t1 ≥ 65536) then t6 else t5; let t8 := IntKind.i64.wrap (t7 + 8); let t9 := bif decide (t2 ≥ 256) then t8 else t7; let t10 := IntKind.i64.wrap (byteAt len8tab t4); let t11 := IntKind.i64.wrap (t9 + t10); bits_Len64.c0 n k a t1 t2 t3 t4 t5 t6 t7 t8 t9 t10 t11
def bits_Len64.ok (a : Int) : Bool := bits_Len64.c false (fun _ => true) a
def bits_Len64 (a : Int) : Int := bits_Len64.c (0) id a
def bits_Len64.F : FV := mkF (cP (cI .u64) cU) (fun _ => true) (fun | (a, ()) => .int .i64 (bits_Len64 a))
def L_bits_Len64 : TL := (105, bits_Len64.F) :: L_bits_Sub64
theorem bits_Len64.okt (a : Int) : bits_Len64.ok a = true := by
  unfold bits_Len64.ok bits_Len64.c bits_Len64.c0; simp only [u8i, cond_true, Bool.cond_self]
theorem bits_Len64.p0 {γ : Type} (k : Int → γ) (a : Int) (t1 : Int) (t2 : Int) (t3 : Int) (t4 : Int) (t5 : Int) (t6 : Int) (t7 : Int) (t8 : Int) (t9 : Int) (t10 : Int) (t11 : Int) : bits_Len64.c0 false (fun _ => true) a t1 t2 t3 t4 t5 t6 t7 t8 t9 t10 t11 = true → bits_Len64.c0 none (fun q => some (k q)) a t1 t2 t3 t4 t5 t6 t7 t8 t9 t10 t11 = some (k (bits_Len64.c0 (0) id a t1 t2 t3 t4 t5 t6 t7 t8 t9 t10 t11)) := by
  unfold bits_Len64.c0; (repeat' (first | (apply pn k) | (exact pn_none _ _) | (exact pn_leaf k _)))
theorem bits_Len64.p {γ : Type} (k : Int → γ) (a : Int) (h : bits_Len64.ok a = true) : bits_Len64.c none (fun q => some (k q)) a = some (k (bits_Len64 a)) :=
  let t1 := bif decide (a ≥ 4294967296) then a.fdiv (2 ^ min (Int.toNat 32) IntKind.u64.bits) else a; let t2 := bif decide (t1 ≥ 65536) then t1.fdiv (2 ^ min (Int.toNat 16) IntKind.u64.bits) else t1; let t3 := bif decide (t2 ≥ 256) then t2.fdiv (2 ^ min (Int.toNat 8) IntKind.u64.bits) else t2; let t4 := IntKind.u8.wrap t3; let t5 := bif decide (a ≥ 4294967296) then 32 else 0; let t6 := IntKind.i64.wrap (t5 + 16); let t7 := bif decide (t1 ≥ 65536) then t6 else t5; let t8 := IntKind.i64.wrap (t7 + 8); let t9 := bif decide (t2 ≥ 256) then t8 else t7; let t10 := IntKind.i64.wrap (byteAt len8tab t4); let t11 := IntKind.i64.wrap (t9 + t10); bits_Len64.p0 k a t1 t2 t3 t4 t5 t6 t7 t8 t9 t10 t11 h
theorem bits_Len64.r (a : Int) : runF P GS (tab L_bits_Sub64) { merge := true } 60 Tryd.f105 [.int .u64 a] = bits_Len64.c none (fun q => some (.int .i64 (q) : Value)) a := by kernel_rfl
theorem bits_Len64.t : TabOK P GS (tab L_bits_Len64) :=
  TabOK_mk CS bits_Sub64.t Tryd.func105 (by kernel_rfl) true 60 (by
    rintro ⟨a, ⟨⟩⟩ h
    exact (bits_Len64.r a).trans (bits_Len64.p (fun q => (.int .i64 (q) : Value)) a (bits_Len64.okt a)))

def bits_LeadingZeros64.c0 {γ : Type} (k : Int → γ) (a : Int) (t1 : Int) (t2 : Int) : γ := k (t2)
def bits_LeadingZeros64.c {γ : Type} (k : Int → γ) (a : Int) : γ := let t1 := bits_Len64 a; let t2 := IntKind.i64.wrap (64 - t1); bits_LeadingZeros64.c0 k a t1 t2
def bits_LeadingZeros64 (a : Int) : Int := bits_LeadingZeros64.c id a
def bits_LeadingZeros64.F : FV := mkF (cP (cI .u64) cU) (fun _ => true) (fun | (a, ()) => .int .i64 (bits_LeadingZeros64 a))
def L_bits_LeadingZeros64 : TL := (104, bits_LeadingZeros64.F) :: L_bits_Len64
theorem bits_LeadingZeros64.p0 {γ : Type} (k : Int → γ) (a : Int) (t1 : Int) (t2 : Int) : bits_LeadingZeros64.c0 k a t1 t2 = k (bits_LeadingZeros64.c0 id a t1 t2) := by
  unfold bits_LeadingZeros64.c0; (repeat' (first | (apply pc k) | (exact rfl)))
theorem bits_LeadingZeros64.p {γ : Type} (k : Int → γ) (a : Int) : bits_LeadingZeros64.c k a = k (bits_LeadingZeros64 a) :=
  let t1 := bits_Len64 a; let t2 := IntKind.i64.wrap (64 - t1); bits_LeadingZeros64.p0 k a t1 t2
theorem bits_LeadingZeros64.r (a : Int) : runF P GS (tab L_bits_Len64) { merge := true } 60 Tryd.f104 [.int .u64 a] = bits_LeadingZeros64.c (fun q => some (.int .i64 (q) : Value)) a := by kernel_rfl
theorem bits_LeadingZeros64.t : TabOK P GS (tab L_bits_LeadingZeros64) :=
  TabOK_mk CS bits_Len64.t Tryd.func104 (by kernel_rfl) true 60 (by
    rintro ⟨a, ⟨⟩⟩ h
    exact (bits_LeadingZeros64.r a).trans (bits_LeadingZeros64.p (fun q => some (.int .i64 (q) : Value)) a))

def bits_Div64.val (q : Int × Int) : Value := .tuple #[.int .u64 (q).1, .int .u64 (q).2]
def bits_Div64.h : List (Nat × List Nat × Nat) := [(17, [2, 8, 9, 10, 11, 13, 14, 15, 16], 0), (24, [2, 8, 9, 10, 14, 15, 16, 17, 18], 0)]
def bits_Div64.e0 (q : Int × Int × Int × Int × Int × Int × Int × Int × Int) : St := { tmps := [.unk, .unk, .val (.int .u64 (q).1), .unk, .unk, .unk, .unk, .unk, .val (.int .u64 (q).2.1), .val (.int .u64 (q).2.2.1), .val (.int .u64 (q).2.2.2.1), .val (.int .u64 (q).2.2.2.2.1), .unk, .val (.int .u64 (q).2.2.2.2.2.1), .val (.int .u64 (q).2.2.2.2.2.2.1), .val (.int .u64 (q).2.2.2.2.2.2.2.1), .val (.int .u64 (q).2.2.2.2.2.2.2.2), .unk, .unk, .unk, .unk, .unk, .unk, .unk, .unk, .unk, .unk, .unk, .unk, .unk, .unk, .unk, .unk, .unk, .unk, .unk, .unk, .unk, .unk, .unk, .unk, .unk, .unk, .unk, .unk, .unk, .unk, .unk, .unk, .unk, .unk, .unk, .unk, .unk, .unk, .unk, .unk, .unk, .unk, .unk, .unk, .unk, .unk, .unk, .unk, .unk, .unk, .unk, .unk, .unk, .unk, .unk, .unk, .unk, .unk, .unk, .unk, .unk, .unk, .unk, .unk, .unk, .unk, .unk, .unk, .unk, .unk, .unk, .unk, .unk, .unk, .unk, .unk, .unk, .unk, .unk, .unk, .unk, .unk, .unk, .unk, .unk, .unk, .unk, .unk, .unk, .unk, .unk, .unk, .unk, .unk, .unk, .unk, .unk, .unk, .unk, .unk, .unk, .unk, .unk, .unk, .unk, .unk, .unk, .unk, .unk, .unk, .unk, .unk, .unk, .unk, .unk, .unk, .unk, .unk], blks := [], saved := [] }
noncomputable def bits_Div64.B0 : Code := loopAt [1, 1, 1, 1, 1, 1, 1, 1, 1, 1, 1, 1, 1, 1, 0, 0] (fbody Tryd.f100)
def bits_Div64.e1 (q : Int × Int × Int × Int × Int × Int × Int × Int × Int) : St := { tmps := [.unk, .unk, .val (.int .u64 (q).1), .unk, .unk, .unk, .unk, .unk, .val (.int .u64 (q).2.1), .val (.int .u64 (q).2.2.1), .val (.int .u64 (q).2.2.2.1), .unk, .unk, .unk, .val (.int .u64 (q).2.2.2.2.1), .val (.int .u64 (q).2.2.2.2.2.1), .val (.int .u64 (q).2.2.2.2.2.2.1), .val (.int .u64 (q).2.2.2.2.2.2.2.1), .val (.int .u64 (q).2.2.2.2.2.2.2.2), .unk, .unk, .unk, .unk, .unk, .unk, .unk, .unk, .unk, .unk, .unk, .unk, .unk, .unk, .unk, .unk, .unk, .unk, .unk, .unk, .unk, .unk, .unk, .unk, .unk, .unk, .unk, .unk, .unk, .unk, .unk, .unk, .unk, .unk, .unk, .unk, .unk, .unk, .unk, .unk, .unk, .unk, .unk, .unk, .unk, .unk, .unk, .unk, .unk, .unk, .unk, .unk, .unk, .unk, .unk, .unk, .unk, .unk, .unk, .unk, .unk, .unk, .unk, .unk, .unk, .unk, .unk, .unk, .unk, .unk, .unk, .unk, .unk, .unk, .unk, .unk, .unk, .unk, .unk, .unk, .unk, .unk, .unk, .unk, .unk, .unk, .unk, .unk, .unk, .unk, .unk, .unk, .unk, .unk, .unk, .unk, .unk, .unk, .unk, .unk, .unk, .unk, .unk, .unk, .unk, .unk, .unk, .unk, .unk, .unk, .unk, .unk, .unk, .unk, .unk, .unk], blks := [], saved := [] }
noncomputable def bits_Div64.B1 : Code := loopAt [1, 1, 1, 1, 1, 1, 1, 1, 1, 1, 1, 1, 1, 1, 1, 1, 1, 1, 0, 0] (fbody Tryd.f100)
noncomputable def bits_Div64.H (F0 F1 : LSum) : Heads := { heads := bits_Div64.h, merge := true, sums := [(17, F0), (24, F1)] }
noncomputable def bits_Div64.H0  : Heads := { heads := bits_Div64.h, merge := true, sums := [] }
noncomputable def bits_Div64.H1  : Heads := { heads := bits_Div64.h, merge := true, sums := [] }
noncomputable def bits_Div64.K0 (F0 F1 : LSum) : Xt → St → Option Value := kAt P GS (tab L_bits_LeadingZeros64) (bits_Div64.H F0 F1) [1, 1, 1, 1, 1, 1, 1, 1, 1, 1, 1, 1, 1, 1, 0, 0] 60 (fbody Tryd.f100) (retK P GS Tryd.f100)
noncomputable def bits_Div64.K1 (F0 F1 : LSum) : Xt → St → Option Value := kAt P GS (tab L_bits_LeadingZeros64) (bits_Div64.H F0 F1) [1, 1, 1, 1, 1, 1, 1, 1, 1, 1, 1, 1, 1, 1, 1, 1, 1, 1, 0, 0] 60 (fbody Tryd.f100) (retK P GS Tryd.f100)
def bits_Div64.l0.c0 {γ : Type} (k0 : Int × Int × Int × Int × Int × Int × Int × Int × Int → Option γ) (k1 : Int × Int × Int × Int × Int × Int × Int × Int × Int → Option γ) (k : Int × Int → Option γ) (s2 : Int) (s8 : Int) (s9 : Int) (s10 : Int) (s11 : Int) (s13 : Int) (s14 : Int) (s15 : Int) (s16 : Int) (t1 : Int) (t2 : Int) (t3 : Int) (t4 : Int) (t5 : Int) (t6 : Int) (t7 : Int) (t8 : Int) (t9 : Int) (t10 : Int) (t11 : Int) (t12 : Int) (t13 : Int) (t14 : Int) (t15 : Int) (t16 : Int) (t17 : Int) : Option γ := bif decide (s15 ≥ 4294967296)
  then bif decide (t1 ≥ 4294967296)
   then bif !decide (s9 = 0)
    then k1 (s2, s8, s9, s10, s14, t2, t9, t6, t7)
    else none
   else k0 (s2, s8, s9, s10, s11, s13, s14, t2, t1)
  else bif decide (t10 > t12)
   then bif decide (t1 ≥ 4294967296)
    then bif !decide (s9 = 0)
     then k1 (s2, s8, s9, s10, s14, t2, t9, t6, t7)
     else none
    else k0 (s2, s8, s9, s10, s11, s13, s14, t2, t1)
   else bif !decide (s9 = 0)
    then k1 (s2, s8, s9, s10, s14, s15, t17, t14, t15)
    else none
def bits_Div64.l0.c {γ : Type} (k0 : Int × Int × Int × Int × Int × Int × Int × Int × Int → Option γ) (k1 : Int × Int × Int × Int × Int × Int × Int × Int × Int → Option γ) (k : Int × Int → Option γ) (s2 : Int) (s8 : Int) (s9 : Int) (s10 : Int) (s11 : Int) (s13 : Int) (s14 : Int) (s15 : Int) (s16 : Int) : Option γ := let t1 := IntKind.u64.wrap (s16 + s9); let t2 := IntKind.u64.wrap (s15 - 1); let t3 := IntKind.u64.wrap (s11 * 4294967296); let t4 := IntKind.u64.wrap (t3 + s13); let t5 := IntKind.u64.wrap (t2 * s2); let t6 := IntKind.u64.wrap (t4 - t5); let t7 := IntKind.u64.wrap (t6.tdiv s9); let t8 := IntKind.u64.wrap (t7 * s9); let t9 := IntKind.u64.wrap (t6 - t8); let t10 := IntKind.u64.wrap (s15 * s10); let t11 := IntKind.u64.wrap (4294967296 * s16); let t12 := IntKind.u64.wrap (t11 + s13); let t13 := IntKind.u64.wrap (s15 * s2); let t14 := IntKind.u64.wrap (t4 - t13); let t15 := IntKind.u64.wrap (t14.tdiv s9); let t16 := IntKind.u64.wrap (t15 * s9); let t17 := IntKind.u64.wrap (t14 - t16); bits_Div64.l0.c0 k0 k1 k s2 s8 s9 s10 s11 s13 s14 s15 s16 t1 t2 t3 t4 t5 t6 t7 t8 t9 t10 t11 t12 t13 t14 t15 t16 t17
def bits_Div64.l1.c0 {γ : Type} (k1 : Int × Int × Int × Int × Int × Int × Int × Int × Int → Option γ) (k : Int × Int → Option γ) (s2 : Int) (s8 : Int) (s9 : Int) (s10 : Int) (s14 : Int) (s15 : Int) (s16 : Int) (s17 : Int) (s18 : Int) (t1 : Int) (t2 : Int) (t3 : Int) (t4 : Int) (t5 : Int) (t6 : Int) (t7 : Int) (t8 : Int) (t9 : Int) (t10 : Int) (t11 : Int) (t12 : Int) (t13 : Int) (t14 : Int) : Option γ := bif decide (s18 ≥ 4294967296)
  then bif decide (t1 ≥ 4294967296)
   then bif !decide (s8 < 0)
    then k (t4, t8.fdiv (2 ^ min s8.toNat IntKind.u64.bits))
    else none
   else k1 (s2, s8, s9, s10, s14, s15, t1, s17, t3)
  else bif decide (t9 > t11)
   then bif decide (t1 ≥ 4294967296)
    then bif !decide (s8 < 0)
     then k (t4, t8.fdiv (2 ^ min s8.toNat IntKind.u64.bits))
     else none
    else k1 (s2, s8, s9, s10, s14, s15, t1, s17, t3)
   else bif !decide (s8 < 0)
    then k (t12, t14.fdiv (2 ^ min s8.toNat IntKind.u64.bits))
    else none
def bits_Div64.l1.c {γ : Type} (k1 : Int × Int × Int × Int × Int × Int × Int × Int × Int → Option γ) (k : Int × Int → Option γ) (s2 : Int) (s8 : Int) (s9 : Int) (s10 : Int) (s14 : Int) (s15 : Int) (s16 : Int) (s17 : Int) (s18 : Int) : Option γ := let t1 := IntKind.u64.wrap (s16 + s9); let t2 := IntKind.u64.wrap (s15 * 4294967296); let t3 := IntKind.u64.wrap (s18 - 1); let t4 := IntKind.u64.wrap (t2 + t3); let t5 := IntKind.u64.wrap (s17 * 4294967296); let t6 := IntKind.u64.wrap (t5 + s14); let t7 := IntKind.u64.wrap (t3 * s2); let t8 := IntKind.u64.wrap (t6 - t7); let t9 := IntKind.u64.wrap (s18 * s10); let t10 := IntKind.u64.wrap (4294967296 * s16); let t11 := IntKind.u64.wrap (t10 + s14); let t12 := IntKind.u64.wrap (t2 + s18); let t13 := IntKind.u64.wrap (s18 * s2); let t14 := IntKind.u64.wrap (t6 - t13); bits_Div64.l1.c0 k1 k s2 s8 s9 s10 s14 s15 s16 s17 s18 t1 t2 t3 t4 t5 t6 t7 t8 t9 t10 t11 t12 t13 t14
def bits_Div64.c0 {γ : Type} (k0 : Int × Int × Int × Int × Int × Int × Int × Int × Int → Option γ) (k : Int × Int → Option γ) (a : Int) (b : Int) (c : Int) (t1 : Int) (t2 : Int) (t3 : Int) (t4 : Int) (t5 : Int) (t6 : Int) (t7 : Int) (t8 : Int) (t9 : Int) (t10 : Int) : Option γ := bif c == 0
  then none
  else bif decide (c ≤ a)
   then none
   else bif a == 0
    then bif !decide (c = 0)
     then bif !decide (c = 0)
      then k (t1, b.tmod c)
      else none
     else none
    else bif !decide (t3 < 0)
     then bif !decide (t3 < 0)
      then bif !decide (t4 < 0)
       then bif !decide (t3 < 0)
        then bif !decide (t5.fdiv (2 ^ min (Int.toNat 32) IntKind.u64.bits) = 0)
         then k0 (t5, t3, t5.fdiv (2 ^ min (Int.toNat 32) IntKind.u64.bits), andI IntKind.u64 t5 4294967295, orI IntKind.u64 t6 (b.fdiv (2 ^ min (IntKind.u64.wrap (64 - IntKind.u64.wrap (bits_LeadingZeros64 c))).toNat IntKind.u64.bits)), t7.fdiv (2 ^ min (Int.toNat 32) IntKind.u64.bits), andI IntKind.u64 t7 4294967295, t8, t10)
         else none
        else none
       else none
      else none
     else none
def bits_Div64.c {γ : Type} (k0 : Int × Int × Int × Int × Int × Int × Int × Int × Int → Option γ) (k : Int × Int → Option γ) (a : Int) (b : Int) (c : Int) : Option γ := let t1 := IntKind.u64.wrap (b.tdiv c); let t2 := bits_LeadingZeros64 c; let t3 := IntKind.u64.wrap t2; let t4 := IntKind.u64.wrap (64 - t3); let t5 := IntKind.u64.wrap (c * 2 ^ min (IntKind.u64.wrap (bits_LeadingZeros64 c)).toNat IntKind.u64.bits); let t6 := IntKind.u64.wrap (a * 2 ^ min (IntKind.u64.wrap (bits_LeadingZeros64 c)).toNat IntKind.u64.bits); let t7 := IntKind.u64.wrap (b * 2 ^ min (IntKind.u64.wrap (bits_LeadingZeros64 c)).toNat IntKind.u64.bits); let t8 := IntKind.u64.wrap ((orI IntKind.u64 t6 (b.fdiv (2 ^ min (IntKind.u64.wrap (64 - IntKind.u64.wrap (bits_LeadingZeros64 c))).toNat IntKind.u64.bits))).tdiv (t5.fdiv (2 ^ min (Int.toNat 32) IntKind.u64.bits))); let t9 := IntKind.u64.wrap (t8 * t5.fdiv (2 ^ min (Int.toNat 32) IntKind.u64.bits)); let t10 := IntKind.u64.wrap (orI IntKind.u64 t6 (b.fdiv (2 ^ min (IntKind.u64.wrap (64 - IntKind.u64.wrap (bits_LeadingZeros64 c))).toNat IntKind.u64.bits)) - t9); bits_Div64.c0 k0 k a b c t1 t2 t3 t4 t5 t6 t7 t8 t9 t10
def bits_Div64.L1 (N : Nat)  : Nat → Int × Int × Int × Int × Int × Int × Int × Int × Int → Option (Int × Int)
  | 0, _ => none
  | m + 1, q => bits_Div64.l1.c (bits_Div64.L1 N m) some (q).1 (q).2.1 (q).2.2.1 (q).2.2.2.1 (q).2.2.2.2.1 (q).2.2.2.2.2.1 (q).2.2.2.2.2.2.1 (q).2.2.2.2.2.2.2.1 (q).2.2.2.2.2.2.2.2
def bits_Div64.L0 (N : Nat) (l1 : Int × Int × Int × Int × Int × Int × Int × Int × Int → Option (Int × Int)) : Nat → Int × Int × Int × Int × Int × Int × Int × Int × Int → Option (Int × Int)
  | 0, _ => none
  | m + 1, q => bits_Div64.l0.c (bits_Div64.L0 N l1 m) l1 some (q).1 (q).2.1 (q).2.2.1 (q).2.2.2.1 (q).2.2.2.2.1 (q).2.2.2.2.2.1 (q).2.2.2.2.2.2.1 (q).2.2.2.2.2.2.2.1 (q).2.2.2.2.2.2.2.2
def bits_Div64.o (N : Nat) (a : Int) (b : Int) (c : Int) : Option (Int × Int) := bits_Div64.c (bits_Div64.L0 N (bits_Div64.L1 N  N) N) some a b c
noncomputable def bits_Div64.S1 (N : Nat) : LSum := sumN P GS (tab L_bits_LeadingZeros64) (bits_Div64.H1 ) 60 bits_Div64.B1 N
noncomputable def bits_Div64.S0 (N : Nat) : LSum := sumN P GS (tab L_bits_LeadingZeros64) (bits_Div64.H0 ) 60 bits_Div64.B0 N
theorem bits_Div64.l0.p0 {γ δ : Type} (f : γ → δ) (k0 : Int × Int × Int × Int × Int × Int × Int × Int × Int → Option γ) (k1 : Int × Int × Int × Int × Int × Int × Int × Int × Int → Option γ) (k : Int × Int → Option γ) (s2 : Int) (s8 : Int) (s9 : Int) (s10 : Int) (s11 : Int) (s13 : Int) (s14 : Int) (s15 : Int) (s16 : Int) (t1 : Int) (t2 : Int) (t3 : Int) (t4 : Int) (t5 : Int) (t6 : Int) (t7 : Int) (t8 : Int) (t9 : Int) (t10 : Int) (t11 : Int) (t12 : Int) (t13 : Int) (t14 : Int) (t15 : Int) (t16 : Int) (t17 : Int) : bits_Div64.l0.c0 (fun q => (k0 q).map f) (fun q => (k1 q).map f) (fun q => (k q).map f) s2 s8 s9 s10 s11 s13 s14 s15 s16 t1 t2 t3 t4 t5 t6 t7 t8 t9 t10 t11 t12 t13 t14 t15 t16 t17 = (bits_Div64.l0.c0 k0 k1 k s2 s8 s9 s10 s11 s13 s14 s15 s16 t1 t2 t3 t4 t5 t6 t7 t8 t9 t10 t11 t12 t13 t14 t15 t16 t17).map f := by
  unfold bits_Div64.l0.c0; (repeat' (first | (apply pm f) | (exact rfl)))
theorem bits_Div64.l0.p {γ δ : Type} (f : γ → δ) (k0 : Int × Int × Int × Int × Int × Int × Int × Int × Int → Option γ) (k1 : Int × Int × Int × Int × Int × Int × Int × Int × Int → Option γ) (k : Int × Int → Option γ) (s2 : Int) (s8 : Int) (s9 : Int) (s10 : Int) (s11 : Int) (s13 : Int) (s14 : Int) (s15 : Int) (s16 : Int) : bits_Div64.l0.c (fun q => (k0 q).map f) (fun q => (k1 q).map f) (fun q => (k q).map f) s2 s8 s9 s10 s11 s13 s14 s15 s16 = (bits_Div64.l0.c k0 k1 k s2 s8 s9 s10 s11 s13 s14 s15 s16).map f :=
  let t1 := IntKind.u64.wrap (s16 + s9); let t2 := IntKind.u64.wrap (s15 - 1); let t3 := IntKind.u64.wrap (s11 * 4294967296); let t4 := IntKind.u64.wrap (t3 + s13); let t5 := IntKind.u64.wrap (t2 * s2); let t6 := IntKind.u64.wrap (t4 - t5); let t7 := IntKind.u64.wrap (t6.tdiv s9); let t8 := IntKind.u64.wrap (t7 * s9); let t9 := IntKind.u64.wrap (t6 - t8); let t10 := IntKind.u64.wrap (s15 * s10); let t11 := IntKind.u64.wrap (4294967296 * s16); let t12 := IntKind.u64.wrap (t11 + s13); let t13 := IntKind.u64.wrap (s15 * s2); let t14 := IntKind.u64.wrap (t4 - t13); let t15 := IntKind.u64.wrap (t14.tdiv s9); let t16 := IntKind.u64.wrap (t15 * s9); let t17 := IntKind.u64.wrap (t14 - t16); bits_Div64.l0.p0 f k0 k1 k s2 s8 s9 s10 s11 s13 s14 s15 s16 t1 t2 t3 t4 t5 t6 t7 t8 t9 t10 t11 t12 t13 t14 t15 t16 t17
theorem bits_Div64.l1.p0 {γ δ : Type} (f : γ → δ) (k1 : Int × Int × Int × Int × Int × Int × Int × Int × Int → Option γ) (k : Int × Int → Option γ) (s2 : Int) (s8 : Int) (s9 : Int) (s10 : Int) (s14 : Int) (s15 : Int) (s16 : Int) (s17 : Int) (s18 : Int) (t1 : Int) (t2 : Int) (t3 : Int) (t4 : Int) (t5 : Int) (t6 : Int) (t7 : Int) (t8 : Int) (t9 : Int) (t10 : Int) (t11 : Int) (t12 : Int) (t13 : Int) (t14 : Int) : bits_Div64.l1.c0 (fun q => (k1 q).map f) (fun q => (k q).map f) s2 s8 s9 s10 s14 s15 s16 s17 s18 t1 t2 t3 t4 t5 t6 t7 t8 t9 t10 t11 t12 t13 t14 = (bits_Div64.l1.c0 k1 k s2 s8 s9 s10 s14 s15 s16 s17 s18 t1 t2 t3 t4 t5 t6 t7 t8 t9 t10 t11 t12 t13 t14).map f := by
  unfold bits_Div64.l1.c0; (repeat' (first | (apply pm f) | (exact rfl)))
theorem bits_Div64.l1.p {γ δ : Type} (f : γ → δ) (k1 : Int × Int × Int × Int × Int × Int × Int × Int × Int → Option γ) (k : Int × Int → Option γ) (s2 : Int) (s8 : Int) (s9 : Int) (s10 : Int) (s14 : Int) (s15 : Int) (s16 : Int) (s17 : Int) (s18 : Int) : bits_Div64.l1.c (fun q => (k1 q).map f) (fun q => (k q).map f) s2 s8 s9 s10 s14 s15 s16 s17 s18 = (bits_Div64.l1.c k1 k s2 s8 s9 s10 s14 s15 s16 s17 s18).map f :=
  let t1 := IntKind.u64.wrap (s16 + s9); let t2 := IntKind.u64.wrap (s15 * 4294967296); let t3 := IntKind.u64.wrap (s18 - 1); let t4 := IntKind.u64.wrap (t2 + t3); let t5 := IntKind.u64.wrap (s17 * 4294967296); let t6 := IntKind.u64.wrap (t5 + s14); let t7 := IntKind.u64.wrap (t3 * s2); let t8 := IntKind.u64.wrap (t6 - t7); let t9 := IntKind.u64.wrap (s18 * s10); let t10 := IntKind.u64.wrap (4294967296 * s16); let t11 := IntKind.u64.wrap (t10 + s14); let t12 := IntKind.u64.wrap (t2 + s18); let t13 := IntKind.u64.wrap (s18 * s2); let t14 := IntKind.u64.wrap (t6 - t13); bits_Div64.l1.p0 f k1 k s2 s8 s9 s10 s14 s15 s16 s17 s18 t1 t2 t3 t4 t5 t6 t7 t8 t9 t10 t11 t12 t13 t14
theorem bits_Div64.p0 {γ δ : Type} (f : γ → δ) (k0 : Int × Int × Int × Int × Int × Int × Int × Int × Int → Option γ) (k : Int × Int → Option γ) (a : Int) (b : Int) (c : Int) (t1 : Int) (t2 : Int) (t3 : Int) (t4 : Int) (t5 : Int) (t6 : Int) (t7 : Int) (t8 : Int) (t9 : Int) (t10 : Int) : bits_Div64.c0 (fun q => (k0 q).map f) (fun q => (k q).map f) a b c t1 t2 t3 t4 t5 t6 t7 t8 t9 t10 = (bits_Div64.c0 k0 k a b c t1 t2 t3 t4 t5 t6 t7 t8 t9 t10).map f := by
  unfold bits_Div64.c0; (repeat' (first | (apply pm f) | (exact rfl)))
theorem bits_Div64.p {γ δ : Type} (f : γ → δ) (k0 : Int × Int × Int × Int × Int × Int × Int × Int × Int → Option γ) (k : Int × Int → Option γ) (a : Int) (b : Int) (c : Int) : bits_Div64.c (fun q => (k0 q).map f) (fun q => (k q).map f) a b c = (bits_Div64.c k0 k a b c).map f :=
  let t1 := IntKind.u64.wrap (b.tdiv c); let t2 := bits_LeadingZeros64 c; let t3 := IntKind.u64.wrap t2; let t4 := IntKind.u64.wrap (64 - t3); let t5 := IntKind.u64.wrap (c * 2 ^ min (IntKind.u64.wrap (bits_LeadingZeros64 c)).toNat IntKind.u64.bits); let t6 := IntKind.u64.wrap (a * 2 ^ min (IntKind.u64.wrap (bits_LeadingZeros64 c)).toNat IntKind.u64.bits); let t7 := IntKind.u64.wrap (b * 2 ^ min (IntKind.u64.wrap (bits_LeadingZeros64 c)).toNat IntKind.u64.bits); let t8 := IntKind.u64.wrap ((orI IntKind.u64 t6 (b.fdiv (2 ^ min (IntKind.u64.wrap (64 - IntKind.u64.wrap (bits_LeadingZeros64 c))).toNat IntKind.u64.bits))).tdiv (t5.fdiv (2 ^ min (Int.toNat 32) IntKind.u64.bits))); let t9 := IntKind.u64.wrap (t8 * t5.fdiv (2 ^ min (Int.toNat 32) IntKind.u64.bits)); let t10 := IntKind.u64.wrap (orI IntKind.u64 t6 (b.fdiv (2 ^ min (IntKind.u64.wrap (64 - IntKind.u64.wrap (bits_LeadingZeros64 c))).toNat IntKind.u64.bits)) - t9); bits_Div64.p0 f k0 k a b c t1 t2 t3 t4 t5 t6 t7 t8 t9 t10
theorem bits_Div64.S1.ok (N : Nat) : LoopsOK P GS (bits_Div64.H1 ).sums bits_Div64.B1 := by
  refine LoopsOK_code fun i hi F hF => ?_
  have hlen : (loopsOf bits_Div64.B1).length = 0 := by kernel_rfl
  rw [hlen] at hi
  omega

theorem bits_Div64.S1.snd (N : Nat) : SoundL P GS bits_Div64.B1 (bits_Div64.S1 N) := sumN_sound CS.mixed CS.names bits_LeadingZeros64.t (bits_Div64.S1.ok N) N
theorem bits_Div64.S0.ok (N : Nat) : LoopsOK P GS (bits_Div64.H0 ).sums bits_Div64.B0 := by
  refine LoopsOK_code fun i hi F hF => ?_
  have hlen : (loopsOf bits_Div64.B0).length = 0 := by kernel_rfl
  rw [hlen] at hi
  omega

theorem bits_Div64.S0.snd (N : Nat) : SoundL P GS bits_Div64.B0 (bits_Div64.S0 N) := sumN_sound CS.mixed CS.names bits_LeadingZeros64.t (bits_Div64.S0.ok N) N
theorem bits_Div64.l0.r (F0 F1 G0 G1 : LSum) (s2 : Int) (s8 : Int) (s9 : Int) (s10 : Int) (s11 : Int) (s13 : Int) (s14 : Int) (s15 : Int) (s16 : Int) : ex P GS (tab L_bits_LeadingZeros64) (bits_Div64.H0 ) 60 bits_Div64.B0 (bits_Div64.e0 (s2, s8, s9, s10, s11, s13, s14, s15, s16)) (roundK (bits_Div64.H0 ) bits_Div64.B0 G0 (bits_Div64.K0 F0 F1)) = bits_Div64.l0.c (fun q => G0.run (bits_Div64.e0 q) (bits_Div64.K0 F0 F1)) (fun q => F1.run (bits_Div64.e1 q) (bits_Div64.K1 F0 F1)) (fun q => some (bits_Div64.val q)) s2 s8 s9 s10 s11 s13 s14 s15 s16 := by kernel_rfl
theorem bits_Div64.l1.r (F0 F1 G0 G1 : LSum) (s2 : Int) (s8 : Int) (s9 : Int) (s10 : Int) (s14 : Int) (s15 : Int) (s16 : Int) (s17 : Int) (s18 : Int) : ex P GS (tab L_bits_LeadingZeros64) (bits_Div64.H1 ) 60 bits_Div64.B1 (bits_Div64.e1 (s2, s8, s9, s10, s14, s15, s16, s17, s18)) (roundK (bits_Div64.H1 ) bits_Div64.B1 G1 (bits_Div64.K1 F0 F1)) = bits_Div64.l1.c (fun q => G1.run (bits_Div64.e1 q) (bits_Div64.K1 F0 F1)) (fun q => some (bits_Div64.val q)) s2 s8 s9 s10 s14 s15 s16 s17 s18 := by kernel_rfl
theorem bits_Div64.r (F0 F1 : LSum) (a : Int) (b : Int) (c : Int) : runF P GS (tab L_bits_LeadingZeros64) (bits_Div64.H F0 F1) 60 Tryd.f100 [.int .u64 a, .int .u64 b, .int .u64 c] = bits_Div64.c (fun q => F0.run (bits_Div64.e0 q) (bits_Div64.K0 F0 F1)) (fun q => some (bits_Div64.val q)) a b c := by kernel_rfl
theorem bits_Div64.L1.ok (N : Nat) (F0 F1 : LSum)   : ∀ m q, (sumN P GS (tab L_bits_LeadingZeros64) (bits_Div64.H1 ) 60 bits_Div64.B1 m).run (bits_Div64.e1 q) (bits_Div64.K1 F0 F1) = (bits_Div64.L1 N  m q).map bits_Div64.val
  | 0, q => rfl
  | m + 1, q => by
    have ih := bits_Div64.L1.ok N F0 F1   m
    refine (sumN_run (n := m) rfl).trans ((bits_Div64.l1.r F0 F1 noSum (sumN P GS (tab L_bits_LeadingZeros64) (bits_Div64.H1 ) 60 bits_Div64.B1 m) (q).1 (q).2.1 (q).2.2.1 (q).2.2.2.1 (q).2.2.2.2.1 (q).2.2.2.2.2.1 (q).2.2.2.2.2.2.1 (q).2.2.2.2.2.2.2.1 (q).2.2.2.2.2.2.2.2).trans ?_)
    refine Eq.trans ?_ (bits_Div64.l1.p bits_Div64.val (bits_Div64.L1 N m) some (q).1 (q).2.1 (q).2.2.1 (q).2.2.2.1 (q).2.2.2.2.1 (q).2.2.2.2.2.1 (q).2.2.2.2.2.2.1 (q).2.2.2.2.2.2.2.1 (q).2.2.2.2.2.2.2.2)
    have e1 : (fun q => (sumN P GS (tab L_bits_LeadingZeros64) (bits_Div64.H1 ) 60 bits_Div64.B1 m).run (bits_Div64.e1 q) (bits_Div64.K1 F0 F1)) = (fun q => ((bits_Div64.L1 N m) q).map bits_Div64.val) := funext ih
    rw [e1]; rfl

theorem bits_Div64.L0.ok (N : Nat) (F0 F1 : LSum) (l1 : Int × Int × Int × Int × Int × Int × Int × Int × Int → Option (Int × Int)) (h1 : ∀ q, F1.run (bits_Div64.e1 q) (bits_Div64.K1 F0 F1) = (l1 q).map bits_Div64.val) : ∀ m q, (sumN P GS (tab L_bits_LeadingZeros64) (bits_Div64.H0 ) 60 bits_Div64.B0 m).run (bits_Div64.e0 q) (bits_Div64.K0 F0 F1) = (bits_Div64.L0 N l1 m q).map bits_Div64.val
  | 0, q => rfl
  | m + 1, q => by
    have ih := bits_Div64.L0.ok N F0 F1 l1 h1 m
    refine (sumN_run (n := m) rfl).trans ((bits_Div64.l0.r F0 F1 (sumN P GS (tab L_bits_LeadingZeros64) (bits_Div64.H0 ) 60 bits_Div64.B0 m) noSum (q).1 (q).2.1 (q).2.2.1 (q).2.2.2.1 (q).2.2.2.2.1 (q).2.2.2.2.2.1 (q).2.2.2.2.2.2.1 (q).2.2.2.2.2.2.2.1 (q).2.2.2.2.2.2.2.2).trans ?_)
    refine Eq.trans ?_ (bits_Div64.l0.p bits_Div64.val (bits_Div64.L0 N l1 m) l1 some (q).1 (q).2.1 (q).2.2.1 (q).2.2.2.1 (q).2.2.2.2.1 (q).2.2.2.2.2.1 (q).2.2.2.2.2.2.1 (q).2.2.2.2.2.2.2.1 (q).2.2.2.2.2.2.2.2)
    have e0 : (fun q => (sumN P GS (tab L_bits_LeadingZeros64) (bits_Div64.H0 ) 60 bits_Div64.B0 m).run (bits_Div64.e0 q) (bits_Div64.K0 F0 F1)) = (fun q => ((bits_Div64.L0 N l1 m) q).map bits_Div64.val) := funext ih
    have e1 : (fun q => F1.run (bits_Div64.e1 q) (bits_Div64.K1 F0 F1)) = (fun q => (l1 q).map bits_Div64.val) := funext h1
    rw [e0, e1]; rfl

theorem bits_Div64.q (N : Nat) (a : Int) (b : Int) (c : Int) : runF P GS (tab L_bits_LeadingZeros64) (bits_Div64.H (bits_Div64.S0 N) (bits_Div64.S1 N)) 60 Tryd.f100 [.int .u64 a, .int .u64 b, .int .u64 c] = (bits_Div64.o N a b c).map bits_Div64.val := by
  have hk1 := bits_Div64.L1.ok N (bits_Div64.S0 N) (bits_Div64.S1 N)   N
  have hk0 := bits_Div64.L0.ok N (bits_Div64.S0 N) (bits_Div64.S1 N) (bits_Div64.L1 N  N) hk1 N
  refine (bits_Div64.r (bits_Div64.S0 N) (bits_Div64.S1 N) a b c).trans ?_
  refine Eq.trans ?_ (bits_Div64.p bits_Div64.val (bits_Div64.L0 N (bits_Div64.L1 N  N) N) some a b c)
  have e0 : (fun q => (bits_Div64.S0 N).run (bits_Div64.e0 q) (bits_Div64.K0 (bits_Div64.S0 N) (bits_Div64.S1 N))) = (fun q => ((bits_Div64.L0 N (bits_Div64.L1 N  N) N) q).map bits_Div64.val) := funext hk0
  rw [e0]; rfl

theorem bits_Div64.lok (N : Nat) : LoopsOK P GS (bits_Div64.H (bits_Div64.S0 N) (bits_Div64.S1 N)).sums (fbody Tryd.f100) := by
  refine LoopsOK_code fun i hi F hF => ?_
  have hlen : (loopsOf (fbody Tryd.f100)).length = 2 := by kernel_rfl
  rw [hlen] at hi
  match i, hi with
  | 0, _ => exact soundAt (B' := bits_Div64.B0) (by kernel_rfl) (by kernel_rfl) (bits_Div64.S0.snd N) hF
  | 1, _ => exact soundAt (B' := bits_Div64.B1) (by kernel_rfl) (by kernel_rfl) (bits_Div64.S1.snd N) hF
  | _ + 2, h => omega

def bits_Div64 (a : Int) (b : Int) (c : Int) : Int × Int := hide ((bits_Div64.o (8) a b c).getD (0, 0))
def bits_Div64.g (a : Int) (b : Int) (c : Int) : Bool := hide (bits_Div64.o (8) a b c).isSome
theorem bits_Div64.s (a : Int) (b : Int) (c : Int) (h : bits_Div64.g a b c = true) : bits_Div64.o (8) a b c = some (bits_Div64 a b c) := by
  unfold bits_Div64.g at h; unfold bits_Div64; simp only [hide_eq] at h ⊢; revert h; cases bits_Div64.o (8) a b c <;> simp
def bits_Div64.F : FV := mkF (cP (cI .u64) (cP (cI .u64) (cP (cI .u64) cU))) (fun | (a, (b, (c, ()))) => bits_Div64.g a b c) (fun | (a, (b, (c, ()))) => bits_Div64.val (bits_Div64 a b c))
def L_bits_Div64 : TL := (100, bits_Div64.F) :: L_bits_LeadingZeros64
theorem bits_Div64.t : TabOK P GS (tab L_bits_Div64) :=
  TabOK_mkH CS bits_LeadingZeros64.t Tryd.func100 (by kernel_rfl) (fun | (_, (_, (_, ()))) => bits_Div64.H (bits_Div64.S0 (8)) (bits_Div64.S1 (8))) (by rintro ⟨a, ⟨b, ⟨c, ⟨⟩⟩⟩⟩; exact bits_Div64.lok _) 60 (by
    rintro ⟨a, ⟨b, ⟨c, ⟨⟩⟩⟩⟩ h
    exact (bits_Div64.q (8) a b c).trans (congrArg (Option.map bits_Div64.val) (bits_Div64.s a b c h)))

def bits_Rem64.c0 {γ : Type} (n : γ) (k : Int → γ) (a : Int) (b : Int) (c : Int) (t1 : Bool) (t2 : Int × Int) : γ := bif !decide (c = 0)
  then bif t1
   then k (t2.snd)
   else n
  else n
def bits_Rem64.c {γ : Type} (n : γ) (k : Int → γ) (a : Int) (b : Int) (c : Int) : γ := let t1 := bits_Div64.g (a.tmod c) b c; let t2 := bits_Div64 (a.tmod c) b c; bits_Rem64.c0 n k a b c t1 t2
def bits_Rem64.ok (a : Int) (b : Int) (c : Int) : Bool := bits_Rem64.c false (fun _ => true) a b c
def bits_Rem64 (a : Int) (b : Int) (c : Int) : Int := bits_Rem64.c (0) id a b c
def bits_Rem64.F : FV := mkF (cP (cI .u64) (cP (cI .u64) (cP (cI .u64) cU))) (fun | (a, (b, (c, ()))) => bits_Rem64.ok a b c) (fun | (a, (b, (c, ()))) => .int .u64 (bits_Rem64 a b c))
def L_bits_Rem64 : TL := (85, bits_Rem64.F) :: L_bits_Div64
theorem bits_Rem64.p0 {γ : Type} (k : Int → γ) (a : Int) (b : Int) (c : Int) (t1 : Bool) (t2 : Int × Int) : bits_Rem64.c0 false (fun _ => true) a b c t1 t2 = true → bits_Rem64.c0 none (fun q => some (k q)) a b c t1 t2 = some (k (bits_Rem64.c0 (0) id a b c t1 t2)) := by
  unfold bits_Rem64.c0; (repeat' (first | (apply pn k) | (exact pn_none _ _) | (exact pn_leaf k _)))
theorem bits_Rem64.p {γ : Type} (k : Int → γ) (a : Int) (b : Int) (c : Int) (h : bits_Rem64.ok a b c = true) : bits_Rem64.c none (fun q => some (k q)) a b c = some (k (bits_Rem64 a b c)) :=
  let t1 := bits_Div64.g (a.tmod c) b c; let t2 := bits_Div64 (a.tmod c) b c; bits_Rem64.p0 k a b c t1 t2 h
theorem bits_Rem64.r (a : Int) (b : Int) (c : Int) : runF P GS (tab L_bits_Div64) { merge := true } 60 Tryd.f85 [.int .u64 a, .int .u64 b, .int .u64 c] = bits_Rem64.c none (fun q => some (.int .u64 (q) : Value)) a b c := by kernel_rfl
theorem bits_Rem64.t : TabOK P GS (tab L_bits_Rem64) :=
  TabOK_mk CS bits_Div64.t Tryd.func85 (by kernel_rfl) true 60 (by
    rintro ⟨a, ⟨b, ⟨c, ⟨⟩⟩⟩⟩ h
    exact (bits_Rem64.r a b c).trans (bits_Rem64.p (fun q => (.int .u64 (q) : Value)) a b c h))

def cong_times.c0 {γ : Type} (n : γ) (k : Int → γ) (a : Int) (b : Int) (c : Int) (t1 : Int × Int) (t2 : Bool) (t3 : Int) : γ := bif t2
  then k (t3)
  else n
def cong_times.c {γ : Type} (n : γ) (k : Int → γ) (a : Int) (b : Int) (c : Int) : γ := let t1 := bits_Mul64 a b; let t2 := bits_Rem64.ok t1.fst t1.snd c; let t3 := bits_Rem64 t1.fst t1.snd c; cong_times.c0 n k a b c t1 t2 t3
def cong_times.ok (a : Int) (b : Int) (c : Int) : Bool := cong_times.c false (fun _ => true) a b c
def cong_times (a : Int) (b : Int) (c : Int) : Int := cong_times.c (0) id a b c
def cong_times.F : FV := mkF (cP (cI .u64) (cP (cI .u64) (cP (cI .u64) cU))) (fun | (a, (b, (c, ()))) => cong_times.ok a b c) (fun | (a, (b, (c, ()))) => .int .u64 (cong_times a b c))
def L_cong_times : TL := (43, cong_times.F) :: L_bits_Rem64
theorem cong_times.p0 {γ : Type} (k : Int → γ) (a : Int) (b : Int) (c : Int) (t1 : Int × Int) (t2 : Bool) (t3 : Int) : cong_times.c0 false (fun _ => true) a b c t1 t2 t3 = true → cong_times.c0 none (fun q => some (k q)) a b c t1 t2 t3 = some (k (cong_times.c0 (0) id a b c t1 t2 t3)) := by
  unfold cong_times.c0; (repeat' (first | (apply pn k) | (exact pn_none _ _) | (exact pn_leaf k _)))
theorem cong_times.p {γ : Type} (k : Int → γ) (a : Int) (b : Int) (c : Int) (h : cong_times.ok a b c = true) : cong_times.c none (fun q => some (k q)) a b c = some (k (cong_times a b c)) :=
  let t1 := bits_Mul64 a b; let t2 := bits_Rem64.ok t1.fst t1.snd c; let t3 := bits_Rem64 t1.fst t1.snd c; cong_times.p0 k a b c t1 t2 t3 h
theorem cong_times.r (a : Int) (b : Int) (c : Int) : runF P GS (tab L_bits_Rem64) { merge := true } 60 Tryd.f43 [.int .u64 a, .int .u64 b, .int .u64 c] = cong_times.c none (fun q => some (.int .u64 (q) : Value)) a b c := by kernel_rfl
theorem cong_times.t : TabOK P GS (tab L_cong_times) :=
  TabOK_mk CS bits_Rem64.t Tryd.func43 (by kernel_rfl) true 60 (by
    rintro ⟨a, ⟨b, ⟨c, ⟨⟩⟩⟩⟩ h
    exact (cong_times.r a b c).trans (cong_times.p (fun q => (.int .u64 (q) : Value)) a b c h))

def cong_inverse.val (q : Int) : Value := .int .u64 (q)
def cong_inverse.h : List (Nat × List Nat × Nat) := [(3, [1, 5, 6, 7, 8], 0)]
def cong_inverse.e0 (q : Int × Int × Int × Int × Int) : St := { tmps := [.unk, .val (.int .u64 (q).1), .unk, .unk, .unk, .val (.int .u64 (q).2.1), .val (.int .u64 (q).2.2.1), .val (.int .u64 (q).2.2.2.1), .val (.int .u64 (q).2.2.2.2), .unk, .unk, .unk, .unk, .unk, .unk, .unk, .unk, .unk, .unk, .unk, .unk, .unk, .unk, .unk, .unk, .unk, .unk, .unk, .unk, .unk, .unk, .unk, .unk, .unk, .unk, .unk, .unk, .unk], blks := [], saved := [] }
noncomputable def cong_inverse.B0 : Code := loopAt [1, 1, 1, 0, 0] (fbody Tryd.f44)
noncomputable def cong_inverse.H (F0 : LSum) : Heads := { heads := cong_inverse.h, merge := true, sums := [(3, F0)] }
noncomputable def cong_inverse.H0  : Heads := { heads := cong_inverse.h, merge := true, sums := [] }
noncomputable def cong_inverse.K0 (F0 : LSum) : Xt → St → Option Value := kAt P GS (tab L_cong_times) (cong_inverse.H F0) [1, 1, 1, 0, 0] 60 (fbody Tryd.f44) (retK P GS Tryd.f44)
def cong_inverse.l0.c0 {γ : Type} (k0 : Int × Int × Int × Int × Int → Option γ) (k : Int → Option γ) (s1 : Int) (s5 : Int) (s6 : Int) (s7 : Int) (s8 : Int) (t1 : Int) (t2 : Bool) (t3 : Int) (t4 : Int) (t5 : Int) (t6 : Int) : Option γ := bif s6 != 0
  then bif !decide (s6 = 0)
   then bif !decide (s1 = 0)
    then bif t2
     then k0 (s1, s6, t4, s8, t6)
     else none
    else none
   else none
  else k (s7)
def cong_inverse.l0.c {γ : Type} (k0 : Int × Int × Int × Int × Int → Option γ) (k : Int → Option γ) (s1 : Int) (s5 : Int) (s6 : Int) (s7 : Int) (s8 : Int) : Option γ := let t1 := IntKind.u64.wrap (s5.tdiv s6); let t2 := cong_times.ok (t1.tmod s1) s8 s1; let t3 := IntKind.u64.wrap (t1 * s6); let t4 := IntKind.u64.wrap (s5 - t3); let t5 := cong_times (t1.tmod s1) s8 s1; let t6 := cong_minus s7 t5 s1; cong_inverse.l0.c0 k0 k s1 s5 s6 s7 s8 t1 t2 t3 t4 t5 t6
def cong_inverse.c {γ : Type} (k0 : Int × Int × Int × Int × Int → Option γ) (k : Int → Option γ) (a : Int) (b : Int) : Option γ := bif !decide (b = 0)
  then bif !decide (b = 0)
   then k0 (b, b, a.tmod b, 0, Int.tmod 1 b)
   else none
  else none
def cong_inverse.L0 (N : Nat)  : Nat → Int × Int × Int × Int × Int → Option (Int)
  | 0, _ => none
  | m + 1, q => cong_inverse.l0.c (cong_inverse.L0 N m) some (q).1 (q).2.1 (q).2.2.1 (q).2.2.2.1 (q).2.2.2.2
def cong_inverse.o (N : Nat) (a : Int) (b : Int) : Option (Int) := cong_inverse.c (cong_inverse.L0 N  N) some a b
noncomputable def cong_inverse.S0 (N : Nat) : LSum := sumN P GS (tab L_cong_times) (cong_inverse.H0 ) 60 cong_inverse.B0 N
theorem cong_inverse.l0.p0 {γ δ : Type} (f : γ → δ) (k0 : Int × Int × Int × Int × Int → Option γ) (k : Int → Option γ) (s1 : Int) (s5 : Int) (s6 : Int) (s7 : Int) (s8 : Int) (t1 : Int) (t2 : Bool) (t3 : Int) (t4 : Int) (t5 : Int) (t6 : Int) : cong_inverse.l0.c0 (fun q => (k0 q).map f) (fun q => (k q).map f) s1 s5 s6 s7 s8 t1 t2 t3 t4 t5 t6 = (cong_inverse.l0.c0 k0 k s1 s5 s6 s7 s8 t1 t2 t3 t4 t5 t6).map f := by
  unfold cong_inverse.l0.c0; (repeat' (first | (apply pm f) | (exact rfl)))
theorem cong_inverse.l0.p {γ δ : Type} (f : γ → δ) (k0 : Int × Int × Int × Int × Int → Option γ) (k : Int → Option γ) (s1 : Int) (s5 : Int) (s6 : Int) (s7 : Int) (s8 : Int) : cong_inverse.l0.c (fun q => (k0 q).map f) (fun q => (k q).map f) s1 s5 s6 s7 s8 = (cong_inverse.l0.c k0 k s1 s5 s6 s7 s8).map f :=
  let t1 := IntKind.u64.wrap (s5.tdiv s6); let t2 := cong_times.ok (t1.tmod s1) s8 s1; let t3 := IntKind.u64.wrap (t1 * s6); let t4 := IntKind.u64.wrap (s5 - t3); let t5 := cong_times (t1.tmod s1) s8 s1; let t6 := cong_minus s7 t5 s1; cong_inverse.l0.p0 f k0 k s1 s5 s6 s7 s8 t1 t2 t3 t4 t5 t6
theorem cong_inverse.p {γ δ : Type} (f : γ → δ) (k0 : Int × Int × Int × Int × Int → Option γ) (k : Int → Option γ) (a : Int) (b : Int) : cong_inverse.c (fun q => (k0 q).map f) (fun q => (k q).map f) a b = (cong_inverse.c k0 k a b).map f := by
  unfold cong_inverse.c; (repeat' (first | (apply pm f) | (exact rfl)))
theorem cong_inverse.S0.ok (N : Nat) : LoopsOK P GS (cong_inverse.H0 ).sums cong_inverse.B0 := by
  refine LoopsOK_code fun i hi F hF => ?_
  have hlen : (loopsOf cong_inverse.B0).length = 0 := by kernel_rfl
  rw [hlen] at hi
  omega

theorem cong_inverse.S0.snd (N : Nat) : SoundL P GS cong_inverse.B0 (cong_inverse.S0 N) := sumN_sound CS.mixed CS.names cong_times.t (cong_inverse.S0.ok N) N
theorem cong_inverse.l0.r (F0 G0 : LSum) (s1 : Int) (s5 : Int) (s6 : Int) (s7 : Int) (s8 : Int) : ex P GS (tab L_cong_times) (cong_inverse.H0 ) 60 cong_inverse.B0 (cong_inverse.e0 (s1, s5, s6, s7, s8)) (roundK (cong_inverse.H0 ) cong_inverse.B0 G0 (cong_inverse.K0 F0)) = cong_inverse.l0.c (fun q => G0.run (cong_inverse.e0 q) (cong_inverse.K0 F0)) (fun q => some (cong_inverse.val q)) s1 s5 s6 s7 s8 := by kernel_rfl
theorem cong_inverse.r (F0 : LSum) (a : Int) (b : Int) : runF P GS (tab L_cong_times) (cong_inverse.H F0) 60 Tryd.f44 [.int .u64 a, .int .u64 b] = cong_inverse.c (fun q => F0.run (cong_inverse.e0 q) (cong_inverse.K0 F0)) (fun q => some (cong_inverse.val q)) a b := by kernel_rfl
theorem cong_inverse.L0.ok (N : Nat) (F0 : LSum)   : ∀ m q, (sumN P GS (tab L_cong_times) (cong_inverse.H0 ) 60 cong_inverse.B0 m).run (cong_inverse.e0 q) (cong_inverse.K0 F0) = (cong_inverse.L0 N  m q).map cong_inverse.val
  | 0, q => rfl
  | m + 1, q => by
    have ih := cong_inverse.L0.ok N F0   m
    refine (sumN_run (n := m) rfl).trans ((cong_inverse.l0.r F0 (sumN P GS (tab L_cong_times) (cong_inverse.H0 ) 60 cong_inverse.B0 m) (q).1 (q).2.1 (q).2.2.1 (q).2.2.2.1 (q).2.2.2.2).trans ?_)
    refine Eq.trans ?_ (cong_inverse.l0.p cong_inverse.val (cong_inverse.L0 N m) some (q).1 (q).2.1 (q).2.2.1 (q).2.2.2.1 (q).2.2.2.2)
    have e0 : (fun q => (sumN P GS (tab L_cong_times) (cong_inverse.H0 ) 60 cong_inverse.B0 m).run (cong_inverse.e0 q) (cong_inverse.K0 F0)) = (fun q => ((cong_inverse.L0 N m) q).map cong_inverse.val) := funext ih
    rw [e0]; rfl

theorem cong_inverse.q (N : Nat) (a : Int) (b : Int) : runF P GS (tab L_cong_times) (cong_inverse.H (cong_inverse.S0 N)) 60 Tryd.f44 [.int .u64 a, .int .u64 b] = (cong_inverse.o N a b).map cong_inverse.val := by
  have hk0 := cong_inverse.L0.ok N (cong_inverse.S0 N)   N
  refine (cong_inverse.r (cong_inverse.S0 N) a b).trans ?_
  refine Eq.trans ?_ (cong_inverse.p cong_inverse.val (cong_inverse.L0 N  N) some a b)
  have e0 : (fun q => (cong_inverse.S0 N).run (cong_inverse.e0 q) (cong_inverse.K0 (cong_inverse.S0 N))) = (fun q => ((cong_inverse.L0 N  N) q).map cong_inverse.val) := funext hk0
  rw [e0]; rfl

theorem cong_inverse.lok (N : Nat) : LoopsOK P GS (cong_inverse.H (cong_inverse.S0 N)).sums (fbody Tryd.f44) := by
  refine LoopsOK_code fun i hi F hF => ?_
  have hlen : (loopsOf (fbody Tryd.f44)).length = 1 := by kernel_rfl
  rw [hlen] at hi
  match i, hi with
  | 0, _ => exact soundAt (B' := cong_inverse.B0) (by kernel_rfl) (by kernel_rfl) (cong_inverse.S0.snd N) hF
  | _ + 1, h => omega

def cong_inverse (a : Int) (b : Int) : Int := hide ((cong_inverse.o (b.toNat + 2) a b).getD (0))
def cong_inverse.g (a : Int) (b : Int) : Bool := hide (cong_inverse.o (b.toNat + 2) a b).isSome
theorem cong_inverse.s (a : Int) (b : Int) (h : cong_inverse.g a b = true) : cong_inverse.o (b.toNat + 2) a b = some (cong_inverse a b) := by
  unfold cong_inverse.g at h; unfold cong_inverse; simp only [hide_eq] at h ⊢; revert h; cases cong_inverse.o (b.toNat + 2) a b <;> simp
def cong_inverse.F : FV := mkF (cP (cI .u64) (cP (cI .u64) cU)) (fun | (a, (b, ())) => cong_inverse.g a b) (fun | (a, (b, ())) => cong_inverse.val (cong_inverse a b))
def L_cong_inverse : TL := (44, cong_inverse.F) :: L_cong_times
theorem cong_inverse.t : TabOK P GS (tab L_cong_inverse) :=
  TabOK_mkH CS cong_times.t Tryd.func44 (by kernel_rfl) (fun | (_, (b, ())) => cong_inverse.H (cong_inverse.S0 (b.toNat + 2))) (by rintro ⟨a, ⟨b, ⟨⟩⟩⟩; exact cong_inverse.lok _) 60 (by
    rintro ⟨a, ⟨b, ⟨⟩⟩⟩ h
    exact (cong_inverse.q (b.toNat + 2) a b).trans (congrArg (Option.map cong_inverse.val) (cong_inverse.s a b h)))

end
end Go.Proofs.YtoggbmfjkcbilaaDoor.V
