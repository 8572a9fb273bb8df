/- What the functions of this seat compute on texts, told by evaluation of their code. Conditions: none. -/
import Derived.Test.YtfcgmfefdgcmjaaDoorS4
set_option linter.unusedVariables false
set_option linter.unusedSimpArgs false
namespace Go.Proofs.YtfcgmfefdgcmjaaDoor.V
open Go Go.Wk
noncomputable section

def word_PrintT.c0 {γ : Type} (n : γ) (k : ByteArray → γ) (a : Int) (t1 : Bool) (t2 : ByteArray) : γ := bif a == -9223372036854775808
  then k (({ data := #[45, 57, 50, 50, 51, 51, 55, 50, 48, 51, 54, 56, 53, 52, 55, 55, 53, 56, 48, 56] } : ByteArray))
  else bif t1 && decide (10 = 10)
   then k (t2)
   else n
def word_PrintT.c {γ : Type} (n : γ) (k : ByteArray → γ) (a : Int) : γ := let t1 := rngI a; let t2 := numText a; word_PrintT.c0 n k a t1 t2
def word_PrintT.ok (a : Int) : Bool := word_PrintT.c false (fun _ => true) a
def word_PrintT (a : Int) : ByteArray := word_PrintT.c (ByteArray.empty) id a
def word_PrintT.F : FV := mkF (cP (cI .i64) cU) (fun | (a, ()) => word_PrintT.ok a) (fun | (a, ()) => .string (word_PrintT a))
def L_word_PrintT : TL := (9, word_PrintT.F) :: L_lib_FmtAny
theorem word_PrintT.p0 {γ : Type} (k : ByteArray → γ) (a : Int) (t1 : Bool) (t2 : ByteArray) : word_PrintT.c0 false (fun _ => true) a t1 t2 = true → word_PrintT.c0 none (fun q => some (k q)) a t1 t2 = some (k (word_PrintT.c0 (ByteArray.empty) id a t1 t2)) := by
  unfold word_PrintT.c0; (repeat' (first | (apply pn k) | (exact pn_none _ _) | (exact pn_leaf k _)))
theorem word_PrintT.p {γ : Type} (k : ByteArray → γ) (a : Int) (h : word_PrintT.ok a = true) : word_PrintT.c none (fun q => some (k q)) a = some (k (word_PrintT a)) :=
  let t1 := rngI a; let t2 := numText a; word_PrintT.p0 k a t1 t2 h
theorem word_PrintT.r (a : Int) : runF P G (tab L_lib_FmtAny) { merge := true, glue := true } 60 Tryd.f9 [.int .i64 a] = word_PrintT.c none (fun q => some (.string (q) : Value)) a := by kernel_rfl
theorem word_PrintT.t : TabOK P G (tab L_word_PrintT) :=
  TabOK_mkL C lib_FmtAny.t Tryd.func9 (by kernel_rfl) { merge := true, glue := true } (fun c _ => LoopsOK_nil c) 60 (by
    rintro ⟨a, ⟨⟩⟩ h
    exact (word_PrintT.r a).trans (word_PrintT.p (fun q => (.string (q) : Value)) a h))

def r1_Add.val (q : Int) : Value := .int .i64 (q)
def r1_Add.h : List (Nat × List Nat × Nat) := [(2, [5, 6], 0)]
def r1_Add.e0 (q : Int × Int) : St := { tmps := [.unk, .unk, .unk, .unk, .unk, .val (.int .u64 (q).1), .val (.int .u64 (q).2), .unk, .unk, .unk, .unk, .unk, .unk, .unk, .unk, .unk, .unk, .unk, .unk, .unk, .unk, .unk, .unk, .unk], blks := [], saved := [] }
noncomputable def r1_Add.B0 : Code := loopAt [1, 1, 0, 0] (fbody Tryd.f26)
noncomputable def r1_Add.H (F0 : LSum) : Heads := { heads := r1_Add.h, merge := true, sums := [(2, F0)] }
noncomputable def r1_Add.H0  : Heads := { heads := r1_Add.h, merge := true, sums := [] }
noncomputable def r1_Add.K0 (F0 : LSum) : Xt → St → Option Value := kAt P G (tab L_word_PrintT) (r1_Add.H F0) [1, 1, 0, 0] 60 (fbody Tryd.f26) (retK P G Tryd.f26)
def r1_Add.l0.c0 {γ : Type} (k0 : Int × Int → Option γ) (k : Int → Option γ) (s5 : Int) (s6 : Int) (t1 : Int) (t2 : Int) : Option γ := bif s6 != 0
  then k0 (xorI IntKind.u64 s5 s6, t1)
  else k (t2)
def r1_Add.l0.c {γ : Type} (k0 : Int × Int → Option γ) (k : Int → Option γ) (s5 : Int) (s6 : Int) : Option γ := let t1 := IntKind.u64.wrap (andI IntKind.u64 s5 s6 * 2 ^ min (Int.toNat 1) IntKind.u64.bits); let t2 := IntKind.i64.wrap s5; r1_Add.l0.c0 k0 k s5 s6 t1 t2
def r1_Add.c0 {γ : Type} (k0 : Int × Int → Option γ) (k : Int → Option γ) (a : Int) (b : Int) (t1 : Int) (t2 : Int) : Option γ := k0 (t1, t2)
def r1_Add.c {γ : Type} (k0 : Int × Int → Option γ) (k : Int → Option γ) (a : Int) (b : Int) : Option γ := let t1 := IntKind.u64.wrap a; let t2 := IntKind.u64.wrap b; r1_Add.c0 k0 k a b t1 t2
def r1_Add.L0 (N : Nat)  : Nat → Int × Int → Option (Int)
  | 0, _ => none
  | m + 1, q => r1_Add.l0.c (r1_Add.L0 N m) some (q).1 (q).2
def r1_Add.o (N : Nat) (a : Int) (b : Int) : Option (Int) := r1_Add.c (r1_Add.L0 N  N) some a b
noncomputable def r1_Add.S0 (N : Nat) : LSum := sumN P G (tab L_word_PrintT) (r1_Add.H0 ) 60 r1_Add.B0 N
theorem r1_Add.l0.p0 {γ δ : Type} (f : γ → δ) (k0 : Int × Int → Option γ) (k : Int → Option γ) (s5 : Int) (s6 : Int) (t1 : Int) (t2 : Int) : r1_Add.l0.c0 (fun q => (k0 q).map f) (fun q => (k q).map f) s5 s6 t1 t2 = (r1_Add.l0.c0 k0 k s5 s6 t1 t2).map f := by
  unfold r1_Add.l0.c0; (repeat' (first | (apply pm f) | (exact rfl)))
theorem r1_Add.l0.p {γ δ : Type} (f : γ → δ) (k0 : Int × Int → Option γ) (k : Int → Option γ) (s5 : Int) (s6 : Int) : r1_Add.l0.c (fun q => (k0 q).map f) (fun q => (k q).map f) s5 s6 = (r1_Add.l0.c k0 k s5 s6).map f :=
  let t1 := IntKind.u64.wrap (andI IntKind.u64 s5 s6 * 2 ^ min (Int.toNat 1) IntKind.u64.bits); let t2 := IntKind.i64.wrap s5; r1_Add.l0.p0 f k0 k s5 s6 t1 t2
theorem r1_Add.p0 {γ δ : Type} (f : γ → δ) (k0 : Int × Int → Option γ) (k : Int → Option γ) (a : Int) (b : Int) (t1 : Int) (t2 : Int) : r1_Add.c0 (fun q => (k0 q).map f) (fun q => (k q).map f) a b t1 t2 = (r1_Add.c0 k0 k a b t1 t2).map f := by
  unfold r1_Add.c0; (repeat' (first | (apply pm f) | (exact rfl)))
theorem r1_Add.p {γ δ : Type} (f : γ → δ) (k0 : Int × Int → Option γ) (k : Int → Option γ) (a : Int) (b : Int) : r1_Add.c (fun q => (k0 q).map f) (fun q => (k q).map f) a b = (r1_Add.c k0 k a b).map f :=
  let t1 := IntKind.u64.wrap a; let t2 := IntKind.u64.wrap b; r1_Add.p0 f k0 k a b t1 t2
theorem r1_Add.S0.ok (N : Nat) : LoopsOK P G (r1_Add.H0 ).sums r1_Add.B0 := by
  refine LoopsOK_code fun i hi F hF => ?_
  have hlen : (loopsOf r1_Add.B0).length = 0 := by kernel_rfl
  rw [hlen] at hi
  omega

theorem r1_Add.S0.snd (N : Nat) : SoundL P G r1_Add.B0 (r1_Add.S0 N) := sumN_sound C.mixed C.names word_PrintT.t (r1_Add.S0.ok N) N
theorem r1_Add.l0.r (F0 G0 : LSum) (s5 : Int) (s6 : Int) : ex P G (tab L_word_PrintT) (r1_Add.H0 ) 60 r1_Add.B0 (r1_Add.e0 (s5, s6)) (roundK (r1_Add.H0 ) r1_Add.B0 G0 (r1_Add.K0 F0)) = r1_Add.l0.c (fun q => G0.run (r1_Add.e0 q) (r1_Add.K0 F0)) (fun q => some (r1_Add.val q)) s5 s6 := by kernel_rfl
theorem r1_Add.r (F0 : LSum) (a : Int) (b : Int) : runF P G (tab L_word_PrintT) (r1_Add.H F0) 60 Tryd.f26 [.int .i64 a, .int .i64 b] = r1_Add.c (fun q => F0.run (r1_Add.e0 q) (r1_Add.K0 F0)) (fun q => some (r1_Add.val q)) a b := by kernel_rfl
theorem r1_Add.L0.ok (N : Nat) (F0 : LSum)   : ∀ m q, (sumN P G (tab L_word_PrintT) (r1_Add.H0 ) 60 r1_Add.B0 m).run (r1_Add.e0 q) (r1_Add.K0 F0) = (r1_Add.L0 N  m q).map r1_Add.val
  | 0, q => rfl
  | m + 1, q => by
    have ih := r1_Add.L0.ok N F0   m
    refine (sumN_run (n := m) rfl).trans ((r1_Add.l0.r F0 (sumN P G (tab L_word_PrintT) (r1_Add.H0 ) 60 r1_Add.B0 m) (q).1 (q).2).trans ?_)
    refine Eq.trans ?_ (r1_Add.l0.p r1_Add.val (r1_Add.L0 N m) some (q).1 (q).2)
    have e0 : (fun q => (sumN P G (tab L_word_PrintT) (r1_Add.H0 ) 60 r1_Add.B0 m).run (r1_Add.e0 q) (r1_Add.K0 F0)) = (fun q => ((r1_Add.L0 N m) q).map r1_Add.val) := funext ih
    rw [e0]; rfl

theorem r1_Add.q (N : Nat) (a : Int) (b : Int) : runF P G (tab L_word_PrintT) (r1_Add.H (r1_Add.S0 N)) 60 Tryd.f26 [.int .i64 a, .int .i64 b] = (r1_Add.o N a b).map r1_Add.val := by
  have hk0 := r1_Add.L0.ok N (r1_Add.S0 N)   N
  refine (r1_Add.r (r1_Add.S0 N) a b).trans ?_
  refine Eq.trans ?_ (r1_Add.p r1_Add.val (r1_Add.L0 N  N) some a b)
  have e0 : (fun q => (r1_Add.S0 N).run (r1_Add.e0 q) (r1_Add.K0 (r1_Add.S0 N))) = (fun q => ((r1_Add.L0 N  N) q).map r1_Add.val) := funext hk0
  rw [e0]; rfl

theorem r1_Add.lok (N : Nat) : LoopsOK P G (r1_Add.H (r1_Add.S0 N)).sums (fbody Tryd.f26) := by
  refine LoopsOK_code fun i hi F hF => ?_
  have hlen : (loopsOf (fbody Tryd.f26)).length = 1 := by kernel_rfl
  rw [hlen] at hi
  match i, hi with
  | 0, _ => exact soundAt (B' := r1_Add.B0) (by kernel_rfl) (by kernel_rfl) (r1_Add.S0.snd N) hF
  | _ + 1, h => omega

def r1_Add (a : Int) (b : Int) : Int := hide ((r1_Add.o (67) a b).getD (0))
def r1_Add.g (a : Int) (b : Int) : Bool := hide (r1_Add.o (67) a b).isSome
theorem r1_Add.s (a : Int) (b : Int) (h : r1_Add.g a b = true) : r1_Add.o (67) a b = some (r1_Add a b) := by
  unfold r1_Add.g at h; unfold r1_Add; simp only [hide_eq] at h ⊢; revert h; cases r1_Add.o (67) a b <;> simp
def r1_Add.F : FV := mkF (cP (cI .i64) (cP (cI .i64) cU)) (fun | (a, (b, ())) => r1_Add.g a b) (fun | (a, (b, ())) => r1_Add.val (r1_Add a b))
def L_r1_Add : TL := (26, r1_Add.F) :: L_word_PrintT
theorem r1_Add.t : TabOK P G (tab L_r1_Add) :=
  TabOK_mkH C word_PrintT.t Tryd.func26 (by kernel_rfl) (fun | (_, (_, ())) => r1_Add.H (r1_Add.S0 (67))) (by rintro ⟨a, ⟨b, ⟨⟩⟩⟩; exact r1_Add.lok _) 60 (by
    rintro ⟨a, ⟨b, ⟨⟩⟩⟩ h
    exact (r1_Add.q (67) a b).trans (congrArg (Option.map r1_Add.val) (r1_Add.s a b h)))

def r1_Neg.c0 {γ : Type} (n : γ) (k : Int → γ) (a : Int) (t1 : Int) (t2 : Int) (t3 : Int) (t4 : Bool) (t5 : Int) : γ := bif t4
  then k (t5)
  else n
def r1_Neg.c {γ : Type} (n : γ) (k : Int → γ) (a : Int) : γ := let t1 := if IntKind.u64.signed = true then -1 else IntKind.u64.max; let t2 := IntKind.u64.wrap a; let t3 := IntKind.i64.wrap (xorI IntKind.u64 t1 t2); let t4 := r1_Add.g t3 1; let t5 := r1_Add t3 1; r1_Neg.c0 n k a t1 t2 t3 t4 t5
def r1_Neg.ok (a : Int) : Bool := r1_Neg.c false (fun _ => true) a
def r1_Neg (a : Int) : Int := r1_Neg.c (0) id a
def r1_Neg.F : FV := mkF (cP (cI .i64) cU) (fun | (a, ()) => r1_Neg.ok a) (fun | (a, ()) => .int .i64 (r1_Neg a))
def L_r1_Neg : TL := (29, r1_Neg.F) :: L_r1_Add
theorem r1_Neg.p0 {γ : Type} (k : Int → γ) (a : Int) (t1 : Int) (t2 : Int) (t3 : Int) (t4 : Bool) (t5 : Int) : r1_Neg.c0 false (fun _ => true) a t1 t2 t3 t4 t5 = true → r1_Neg.c0 none (fun q => some (k q)) a t1 t2 t3 t4 t5 = some (k (r1_Neg.c0 (0) id a t1 t2 t3 t4 t5)) := by
  unfold r1_Neg.c0; (repeat' (first | (apply pn k) | (exact pn_none _ _) | (exact pn_leaf k _)))
theorem r1_Neg.p {γ : Type} (k : Int → γ) (a : Int) (h : r1_Neg.ok a = true) : r1_Neg.c none (fun q => some (k q)) a = some (k (r1_Neg a)) :=
  let t1 := if IntKind.u64.signed = true then -1 else IntKind.u64.max; let t2 := IntKind.u64.wrap a; let t3 := IntKind.i64.wrap (xorI IntKind.u64 t1 t2); let t4 := r1_Add.g t3 1; let t5 := r1_Add t3 1; r1_Neg.p0 k a t1 t2 t3 t4 t5 h
theorem r1_Neg.r (a : Int) : runF P G (tab L_r1_Add) { merge := true, glue := true } 60 Tryd.f29 [.int .i64 a] = r1_Neg.c none (fun q => some (.int .i64 (q) : Value)) a := by kernel_rfl
theorem r1_Neg.t : TabOK P G (tab L_r1_Neg) :=
  TabOK_mkL C r1_Add.t Tryd.func29 (by kernel_rfl) { merge := true, glue := true } (fun c _ => LoopsOK_nil c) 60 (by
    rintro ⟨a, ⟨⟩⟩ h
    exact (r1_Neg.r a).trans (r1_Neg.p (fun q => (.int .i64 (q) : Value)) a h))

def r1_Abs.c0 {γ : Type} (n : γ) (k : Int → γ) (a : Int) (t1 : Bool) (t2 : Int) (t3 : Int) (t4 : Int) : γ := bif decide (a < 0)
  then bif t1
   then k (t3)
   else n
  else k (t4)
def r1_Abs.c {γ : Type} (n : γ) (k : Int → γ) (a : Int) : γ := let t1 := r1_Neg.ok a; let t2 := r1_Neg a; let t3 := IntKind.u64.wrap t2; let t4 := IntKind.u64.wrap a; r1_Abs.c0 n k a t1 t2 t3 t4
def r1_Abs.ok (a : Int) : Bool := r1_Abs.c false (fun _ => true) a
def r1_Abs (a : Int) : Int := r1_Abs.c (0) id a
def r1_Abs.F : FV := mkF (cP (cI .i64) cU) (fun | (a, ()) => r1_Abs.ok a) (fun | (a, ()) => .int .u64 (r1_Abs a))
def L_r1_Abs : TL := (36, r1_Abs.F) :: L_r1_Neg
theorem r1_Abs.p0 {γ : Type} (k : Int → γ) (a : Int) (t1 : Bool) (t2 : Int) (t3 : Int) (t4 : Int) : r1_Abs.c0 false (fun _ => true) a t1 t2 t3 t4 = true → r1_Abs.c0 none (fun q => some (k q)) a t1 t2 t3 t4 = some (k (r1_Abs.c0 (0) id a t1 t2 t3 t4)) := by
  unfold r1_Abs.c0; (repeat' (first | (apply pn k) | (exact pn_none _ _) | (exact pn_leaf k _)))
theorem r1_Abs.p {γ : Type} (k : Int → γ) (a : Int) (h : r1_Abs.ok a = true) : r1_Abs.c none (fun q => some (k q)) a = some (k (r1_Abs a)) :=
  let t1 := r1_Neg.ok a; let t2 := r1_Neg a; let t3 := IntKind.u64.wrap t2; let t4 := IntKind.u64.wrap a; r1_Abs.p0 k a t1 t2 t3 t4 h
theorem r1_Abs.r (a : Int) : runF P G (tab L_r1_Neg) { merge := true, glue := true } 60 Tryd.f36 [.int .i64 a] = r1_Abs.c none (fun q => some (.int .u64 (q) : Value)) a := by kernel_rfl
theorem r1_Abs.t : TabOK P G (tab L_r1_Abs) :=
  TabOK_mkL C r1_Neg.t Tryd.func36 (by kernel_rfl) { merge := true, glue := true } (fun c _ => LoopsOK_nil c) 60 (by
    rintro ⟨a, ⟨⟩⟩ h
    exact (r1_Abs.r a).trans (r1_Abs.p (fun q => (.int .u64 (q) : Value)) a h))

def r1_Print.val (q : ByteArray) : Value := .string (q)
def r1_Print.h : List (Nat × List Nat × Nat) := [(3, [0, 3, 4], 0)]
def r1_Print.e0 (q : Int × Int × ByteArray) : St := { tmps := [.val (.int .i64 (q).1), .unk, .unk, .val (.int .u64 (q).2.1), .val (.string (q).2.2), .unk, .unk, .unk, .unk, .unk, .unk, .unk, .unk, .unk, .unk, .unk, .unk, .unk, .unk, .unk, .unk, .unk, .unk, .unk, .unk, .unk, .unk, .unk], blks := [], saved := [] }
noncomputable def r1_Print.B0 : Code := loopAt [1, 1, 1, 0, 0] (fbody Tryd.f10)
noncomputable def r1_Print.H (F0 : LSum) : Heads := { heads := r1_Print.h, merge := true, arr := true, sums := [(3, F0)] }
noncomputable def r1_Print.H0  : Heads := { heads := r1_Print.h, merge := true, arr := true, sums := [] }
noncomputable def r1_Print.K0 (F0 : LSum) : Xt → St → Option Value := kAt P G (tab L_r1_Abs) (r1_Print.H F0) [1, 1, 1, 0, 0] 60 (fbody Tryd.f10) (retK P G Tryd.f10)
def r1_Print.l0.c0 {γ : Type} (k0 : Int × Int × ByteArray → Option γ) (k : ByteArray → Option γ) (s0 : Int) (s3 : Int) (s4 : ByteArray) (t1 : Int) (t2 : Bool) : Option γ := bif decide (s3 > 0)
  then bif !decide ((((byte1 (IntKind.u8.wrap (IntKind.u64.wrap (48 + s3.tmod 10)))).size + s4.size : Nat) : Int) > 9223372036854775807)
   then k0 (s0, t1, byte1 (IntKind.u8.wrap (IntKind.u64.wrap (48 + s3.tmod 10))) ++ s4)
   else none
  else bif s4.toList == ({ data := #[] } : ByteArray).toList
   then bif !decide ((((byte1 (IntKind.u8.wrap (IntKind.u64.wrap (48 + s3.tmod 10)))).size + s4.size : Nat) : Int) > 9223372036854775807)
    then k0 (s0, t1, byte1 (IntKind.u8.wrap (IntKind.u64.wrap (48 + s3.tmod 10))) ++ s4)
    else none
   else bif !decide (((({ data := #[45] } : ByteArray).size + s4.size : Nat) : Int) > 9223372036854775807) && true && true || t2
    then k (bif decide (s0 < 0) then ({ data := #[45] } : ByteArray) ++ s4 else s4)
    else none
def r1_Print.l0.c {γ : Type} (k0 : Int × Int × ByteArray → Option γ) (k : ByteArray → Option γ) (s0 : Int) (s3 : Int) (s4 : ByteArray) : Option γ := let t1 := IntKind.u64.wrap (s3.tdiv 10); let t2 := bif decide (s0 < 0) then !decide (((({ data := #[45] } : ByteArray).size + s4.size : Nat) : Int) > 9223372036854775807) && true else true; r1_Print.l0.c0 k0 k s0 s3 s4 t1 t2
def r1_Print.c0 {γ : Type} (k0 : Int × Int × ByteArray → Option γ) (k : ByteArray → Option γ) (a : Int) (t1 : Bool) (t2 : Int) : Option γ := bif t1
  then k0 (a, t2, ({ data := #[] } : ByteArray))
  else none
def r1_Print.c {γ : Type} (k0 : Int × Int × ByteArray → Option γ) (k : ByteArray → Option γ) (a : Int) : Option γ := let t1 := r1_Abs.ok a; let t2 := r1_Abs a; r1_Print.c0 k0 k a t1 t2
def r1_Print.L0 (N : Nat)  : Nat → Int × Int × ByteArray → Option (ByteArray)
  | 0, _ => none
  | m + 1, q => r1_Print.l0.c (r1_Print.L0 N m) some (q).1 (q).2.1 (q).2.2
def r1_Print.o (N : Nat) (a : Int) : Option (ByteArray) := r1_Print.c (r1_Print.L0 N  N) some a
noncomputable def r1_Print.S0 (N : Nat) : LSum := sumN P G (tab L_r1_Abs) (r1_Print.H0 ) 60 r1_Print.B0 N
theorem r1_Print.l0.p0 {γ δ : Type} (f : γ → δ) (k0 : Int × Int × ByteArray → Option γ) (k : ByteArray → Option γ) (s0 : Int) (s3 : Int) (s4 : ByteArray) (t1 : Int) (t2 : Bool) : r1_Print.l0.c0 (fun q => (k0 q).map f) (fun q => (k q).map f) s0 s3 s4 t1 t2 = (r1_Print.l0.c0 k0 k s0 s3 s4 t1 t2).map f := by
  unfold r1_Print.l0.c0; (repeat' (first | (apply pm f) | (exact rfl)))
theorem r1_Print.l0.p {γ δ : Type} (f : γ → δ) (k0 : Int × Int × ByteArray → Option γ) (k : ByteArray → Option γ) (s0 : Int) (s3 : Int) (s4 : ByteArray) : r1_Print.l0.c (fun q => (k0 q).map f) (fun q => (k q).map f) s0 s3 s4 = (r1_Print.l0.c k0 k s0 s3 s4).map f :=
  let t1 := IntKind.u64.wrap (s3.tdiv 10); let t2 := bif decide (s0 < 0) then !decide (((({ data := #[45] } : ByteArray).size + s4.size : Nat) : Int) > 9223372036854775807) && true else true; r1_Print.l0.p0 f k0 k s0 s3 s4 t1 t2
theorem r1_Print.p0 {γ δ : Type} (f : γ → δ) (k0 : Int × Int × ByteArray → Option γ) (k : ByteArray → Option γ) (a : Int) (t1 : Bool) (t2 : Int) : r1_Print.c0 (fun q => (k0 q).map f) (fun q => (k q).map f) a t1 t2 = (r1_Print.c0 k0 k a t1 t2).map f := by
  unfold r1_Print.c0; (repeat' (first | (apply pm f) | (exact rfl)))
theorem r1_Print.p {γ δ : Type} (f : γ → δ) (k0 : Int × Int × ByteArray → Option γ) (k : ByteArray → Option γ) (a : Int) : r1_Print.c (fun q => (k0 q).map f) (fun q => (k q).map f) a = (r1_Print.c k0 k a).map f :=
  let t1 := r1_Abs.ok a; let t2 := r1_Abs a; r1_Print.p0 f k0 k a t1 t2
theorem r1_Print.S0.ok (N : Nat) : LoopsOK P G (r1_Print.H0 ).sums r1_Print.B0 := by
  refine LoopsOK_code fun i hi F hF => ?_
  have hlen : (loopsOf r1_Print.B0).length = 0 := by kernel_rfl
  rw [hlen] at hi
  omega

theorem r1_Print.S0.snd (N : Nat) : SoundL P G r1_Print.B0 (r1_Print.S0 N) := sumN_sound C.mixed C.names r1_Abs.t (r1_Print.S0.ok N) N
theorem r1_Print.l0.r (F0 G0 : LSum) (s0 : Int) (s3 : Int) (s4 : ByteArray) : ex P G (tab L_r1_Abs) (r1_Print.H0 ) 60 r1_Print.B0 (r1_Print.e0 (s0, s3, s4)) (roundK (r1_Print.H0 ) r1_Print.B0 G0 (r1_Print.K0 F0)) = r1_Print.l0.c (fun q => G0.run (r1_Print.e0 q) (r1_Print.K0 F0)) (fun q => some (r1_Print.val q)) s0 s3 s4 := by kernel_rfl
theorem r1_Print.r (F0 : LSum) (a : Int) : runF P G (tab L_r1_Abs) (r1_Print.H F0) 60 Tryd.f10 [.int .i64 a] = r1_Print.c (fun q => F0.run (r1_Print.e0 q) (r1_Print.K0 F0)) (fun q => some (r1_Print.val q)) a := by kernel_rfl
theorem r1_Print.L0.ok (N : Nat) (F0 : LSum)   : ∀ m q, (sumN P G (tab L_r1_Abs) (r1_Print.H0 ) 60 r1_Print.B0 m).run (r1_Print.e0 q) (r1_Print.K0 F0) = (r1_Print.L0 N  m q).map r1_Print.val
  | 0, q => rfl
  | m + 1, q => by
    have ih := r1_Print.L0.ok N F0   m
    refine (sumN_run (n := m) rfl).trans ((r1_Print.l0.r F0 (sumN P G (tab L_r1_Abs) (r1_Print.H0 ) 60 r1_Print.B0 m) (q).1 (q).2.1 (q).2.2).trans ?_)
    refine Eq.trans ?_ (r1_Print.l0.p r1_Print.val (r1_Print.L0 N m) some (q).1 (q).2.1 (q).2.2)
    have e0 : (fun q => (sumN P G (tab L_r1_Abs) (r1_Print.H0 ) 60 r1_Print.B0 m).run (r1_Print.e0 q) (r1_Print.K0 F0)) = (fun q => ((r1_Print.L0 N m) q).map r1_Print.val) := funext ih
    rw [e0]; rfl

theorem r1_Print.q (N : Nat) (a : Int) : runF P G (tab L_r1_Abs) (r1_Print.H (r1_Print.S0 N)) 60 Tryd.f10 [.int .i64 a] = (r1_Print.o N a).map r1_Print.val := by
  have hk0 := r1_Print.L0.ok N (r1_Print.S0 N)   N
  refine (r1_Print.r (r1_Print.S0 N) a).trans ?_
  refine Eq.trans ?_ (r1_Print.p r1_Print.val (r1_Print.L0 N  N) some a)
  have e0 : (fun q => (r1_Print.S0 N).run (r1_Print.e0 q) (r1_Print.K0 (r1_Print.S0 N))) = (fun q => ((r1_Print.L0 N  N) q).map r1_Print.val) := funext hk0
  rw [e0]; rfl

theorem r1_Print.lok (N : Nat) : LoopsOK P G (r1_Print.H (r1_Print.S0 N)).sums (fbody Tryd.f10) := by
  refine LoopsOK_code fun i hi F hF => ?_
  have hlen : (loopsOf (fbody Tryd.f10)).length = 1 := by kernel_rfl
  rw [hlen] at hi
  match i, hi with
  | 0, _ => exact soundAt (B' := r1_Print.B0) (by kernel_rfl) (by kernel_rfl) (r1_Print.S0.snd N) hF
  | _ + 1, h => omega

def r1_Print (a : Int) : ByteArray := hide ((r1_Print.o (30) a).getD (ByteArray.empty))
def r1_Print.g (a : Int) : Bool := hide (r1_Print.o (30) a).isSome
theorem r1_Print.s (a : Int) (h : r1_Print.g a = true) : r1_Print.o (30) a = some (r1_Print a) := by
  unfold r1_Print.g at h; unfold r1_Print; simp only [hide_eq] at h ⊢; revert h; cases r1_Print.o (30) a <;> simp
def r1_Print.F : FV := mkF (cP (cI .i64) cU) (fun | (a, ()) => r1_Print.g a) (fun | (a, ()) => r1_Print.val (r1_Print a))
def L_r1_Print : TL := (10, r1_Print.F) :: L_r1_Abs
theorem r1_Print.t : TabOK P G (tab L_r1_Print) :=
  TabOK_mkH C r1_Abs.t Tryd.func10 (by kernel_rfl) (fun | (_, ()) => r1_Print.H (r1_Print.S0 (30))) (by rintro ⟨a, ⟨⟩⟩; exact r1_Print.lok _) 60 (by
    rintro ⟨a, ⟨⟩⟩ h
    exact (r1_Print.q (30) a).trans (congrArg (Option.map r1_Print.val) (r1_Print.s a h)))

def r1_Parse.val (q : Int × Int × Int) : Value := .tuple #[.int .i64 (q).1, .int .i64 (q).2.1, .int .i64 (q).2.2]
def r1_Parse.h : List (Nat × List Nat × Nat) := [(6, [0, 5, 6, 7], 0), (13, [0, 6, 8, 9, 10], 0)]
def r1_Parse.e0 (q : ByteArray × Int × Bool × Int) : St := { tmps := [.val (.string (q).1), .unk, .unk, .unk, .unk, .val (.int .i64 (q).2.1), .val (.bool (q).2.2.1), .val (.int .i64 (q).2.2.2), .unk, .unk, .unk, .unk, .unk, .unk, .unk, .unk, .unk, .unk, .unk, .unk, .unk, .unk, .unk, .unk, .unk, .unk, .unk, .unk, .unk, .unk, .unk, .unk, .unk, .unk, .unk, .unk, .unk, .unk, .unk, .unk, .unk, .unk, .unk, .unk, .unk, .unk, .unk, .unk, .unk, .unk, .unk, .unk, .unk, .unk, .unk, .unk, .unk, .unk, .unk, .unk, .unk, .unk, .unk, .unk, .unk, .unk, .unk, .unk, .unk, .unk, .unk, .unk, .unk, .unk, .unk, .unk, .unk, .unk, .unk, .unk, .unk, .unk, .unk, .unk, .unk, .unk, .unk, .unk, .unk, .unk, .unk, .unk, .unk], blks := [], saved := [] }
noncomputable def r1_Parse.B0 : Code := loopAt [1, 1, 1, 1, 1, 0, 0] (fbody Tryd.f8)
def r1_Parse.e1 (q : ByteArray × Bool × Int × Bool × Int) : St := { tmps := [.val (.string (q).1), .unk, .unk, .unk, .unk, .unk, .val (.bool (q).2.1), .unk, .val (.int .u64 (q).2.2.1), .val (.bool (q).2.2.2.1), .val (.int .i64 (q).2.2.2.2), .unk, .unk, .unk, .unk, .unk, .unk, .unk, .unk, .unk, .unk, .unk, .unk, .unk, .unk, .unk, .unk, .unk, .unk, .unk, .unk, .unk, .unk, .unk, .unk, .unk, .unk, .unk, .unk, .unk, .unk, .unk, .unk, .unk, .unk, .unk, .unk, .unk, .unk, .unk, .unk, .unk, .unk, .unk, .unk, .unk, .unk, .unk, .unk, .unk, .unk, .unk, .unk, .unk, .unk, .unk, .unk, .unk, .unk, .unk, .unk, .unk, .unk, .unk, .unk, .unk, .unk, .unk, .unk, .unk, .unk, .unk, .unk, .unk, .unk, .unk, .unk, .unk, .unk, .unk, .unk, .unk, .unk], blks := [], saved := [] }
noncomputable def r1_Parse.B1 : Code := loopAt [1, 1, 1, 1, 1, 1, 1, 1, 1, 0, 1, 0] (fbody Tryd.f8)
noncomputable def r1_Parse.H (F0 F1 : LSum) : Heads := { heads := r1_Parse.h, merge := true, sums := [(6, F0), (13, F1)] }
noncomputable def r1_Parse.H0  : Heads := { heads := r1_Parse.h, merge := true, sums := [] }
noncomputable def r1_Parse.H1  : Heads := { heads := r1_Parse.h, merge := true, sums := [] }
noncomputable def r1_Parse.K0 (F0 F1 : LSum) : Xt → St → Option Value := kAt P G (tab L_r1_Print) (r1_Parse.H F0 F1) [1, 1, 1, 1, 1, 0, 0] 60 (fbody Tryd.f8) (retK P G Tryd.f8)
noncomputable def r1_Parse.K1 (F0 F1 : LSum) : Xt → St → Option Value := kAt P G (tab L_r1_Print) (r1_Parse.H F0 F1) [1, 1, 1, 1, 1, 1, 1, 1, 1, 0, 1, 0] 60 (fbody Tryd.f8) (retK P G Tryd.f8)
def r1_Parse.l0.c0 {γ : Type} (k0 : ByteArray × Int × Bool × Int → Option γ) (k1 : ByteArray × Bool × Int × Bool × Int → Option γ) (k : Int × Int × Int → Option γ) (s0 : ByteArray) (s5 : Int) (s6 : Bool) (s7 : Int) (t1 : Int) : Option γ := bif decide (s5 < ((s0.size : Nat) : Int))
  then bif decide (0 ≤ s5) && decide (s5 < ((s0.size : Nat) : Int))
   then bif decide (byteAt s0 s5 ≥ 48)
    then bif decide (0 ≤ s5) && decide (s5 < ((s0.size : Nat) : Int))
     then bif decide (byteAt s0 s5 ≤ 57)
      then k0 (s0, t1, s6, s7)
      else bif decide (s5 < ((s0.size : Nat) : Int))
       then k (0, 10, s5)
       else bif s5 == s7
        then k (0, 10, s5)
        else k1 (s0, s6, 0, false, s7)
     else none
    else bif decide (s5 < ((s0.size : Nat) : Int))
     then k (0, 10, s5)
     else bif s5 == s7
      then k (0, 10, s5)
      else k1 (s0, s6, 0, false, s7)
   else none
  else bif decide (s5 < ((s0.size : Nat) : Int))
   then k (0, 10, s5)
   else bif s5 == s7
    then k (0, 10, s5)
    else k1 (s0, s6, 0, false, s7)
def r1_Parse.l0.c {γ : Type} (k0 : ByteArray × Int × Bool × Int → Option γ) (k1 : ByteArray × Bool × Int × Bool × Int → Option γ) (k : Int × Int × Int → Option γ) (s0 : ByteArray) (s5 : Int) (s6 : Bool) (s7 : Int) : Option γ := let t1 := IntKind.i64.wrap (s5 + 1); r1_Parse.l0.c0 k0 k1 k s0 s5 s6 s7 t1
def r1_Parse.l1.c0 {γ : Type} (k1 : ByteArray × Bool × Int × Bool × Int → Option γ) (k : Int × Int × Int → Option γ) (s0 : ByteArray) (s6 : Bool) (s8 : Int) (s9 : Bool) (s10 : Int) (t1 : Int) (t2 : Int) (t3 : Int) (t4 : Int) (t5 : Int) (t6 : Int) (t7 : Int) (t8 : Int) (t9 : Bool) (t10 : Int) : Option γ := bif decide (s10 < ((s0.size : Nat) : Int))
  then bif decide (0 ≤ s10) && decide (s10 < ((s0.size : Nat) : Int))
   then bif s9
    then k1 (s0, s6, t4, true, t5)
    else k1 (s0, s6, t4, decide (s8 > t7), t5)
   else none
  else bif s9
   then k (0, 11, 0)
   else bif decide (s8 > 9223372036854775808)
    then k (0, 11, 0)
    else bif s8 == 9223372036854775808
     then bif !s6
      then k (0, 11, 0)
      else bif s6
       then bif t9
        then k (t10, 0, 0)
        else none
       else k (t8, 0, 0)
     else bif s6
      then bif t9
       then k (t10, 0, 0)
       else none
      else k (t8, 0, 0)
def r1_Parse.l1.c {γ : Type} (k1 : ByteArray × Bool × Int × Bool × Int → Option γ) (k : Int × Int × Int → Option γ) (s0 : ByteArray) (s6 : Bool) (s8 : Int) (s9 : Bool) (s10 : Int) : Option γ := let t1 := IntKind.u64.wrap (s8 * 10); let t2 := IntKind.u8.wrap (byteAt s0 s10 - 48); let t3 := IntKind.u64.wrap t2; let t4 := IntKind.u64.wrap (t1 + t3); let t5 := IntKind.i64.wrap (s10 + 1); let t6 := IntKind.u64.wrap (9223372036854775808 - t3); let t7 := IntKind.u64.wrap (t6.tdiv 10); let t8 := IntKind.i64.wrap s8; let t9 := r1_Neg.ok t8; let t10 := r1_Neg t8; r1_Parse.l1.c0 k1 k s0 s6 s8 s9 s10 t1 t2 t3 t4 t5 t6 t7 t8 t9 t10
def r1_Parse.c0 {γ : Type} (k0 : ByteArray × Int × Bool × Int → Option γ) (k : Int × Int × Int → Option γ) (a : ByteArray) (t1 : Int) : Option γ := bif decide (((a.size : Nat) : Int) > 0)
  then bif decide (0 ≤ 0) && decide (0 < ((a.size : Nat) : Int))
   then k0 (a, t1, byteAt a 0 == 45, t1)
   else none
  else k0 (a, 0, false, 0)
def r1_Parse.c {γ : Type} (k0 : ByteArray × Int × Bool × Int → Option γ) (k : Int × Int × Int → Option γ) (a : ByteArray) : Option γ := let t1 := bif byteAt a 0 == 45 then 1 else 0; r1_Parse.c0 k0 k a t1
def r1_Parse.L1 (N : Nat)  : Nat → ByteArray × Bool × Int × Bool × Int → Option (Int × Int × Int)
  | 0, _ => none
  | m + 1, q => r1_Parse.l1.c (r1_Parse.L1 N m) some (q).1 (q).2.1 (q).2.2.1 (q).2.2.2.1 (q).2.2.2.2
def r1_Parse.L0 (N : Nat) (l1 : ByteArray × Bool × Int × Bool × Int → Option (Int × Int × Int)) : Nat → ByteArray × Int × Bool × Int → Option (Int × Int × Int)
  | 0, _ => none
  | m + 1, q => r1_Parse.l0.c (r1_Parse.L0 N l1 m) l1 some (q).1 (q).2.1 (q).2.2.1 (q).2.2.2
def r1_Parse.o (N : Nat) (a : ByteArray) : Option (Int × Int × Int) := r1_Parse.c (r1_Parse.L0 N (r1_Parse.L1 N  N) N) some a
noncomputable def r1_Parse.S1 (N : Nat) : LSum := sumN P G (tab L_r1_Print) (r1_Parse.H1 ) 60 r1_Parse.B1 N
noncomputable def r1_Parse.S0 (N : Nat) : LSum := sumN P G (tab L_r1_Print) (r1_Parse.H0 ) 60 r1_Parse.B0 N
theorem r1_Parse.l0.p0 {γ δ : Type} (f : γ → δ) (k0 : ByteArray × Int × Bool × Int → Option γ) (k1 : ByteArray × Bool × Int × Bool × Int → Option γ) (k : Int × Int × Int → Option γ) (s0 : ByteArray) (s5 : Int) (s6 : Bool) (s7 : Int) (t1 : Int) : r1_Parse.l0.c0 (fun q => (k0 q).map f) (fun q => (k1 q).map f) (fun q => (k q).map f) s0 s5 s6 s7 t1 = (r1_Parse.l0.c0 k0 k1 k s0 s5 s6 s7 t1).map f := by
  unfold r1_Parse.l0.c0; (repeat' (first | (apply pm f) | (exact rfl)))
theorem r1_Parse.l0.p {γ δ : Type} (f : γ → δ) (k0 : ByteArray × Int × Bool × Int → Option γ) (k1 : ByteArray × Bool × Int × Bool × Int → Option γ) (k : Int × Int × Int → Option γ) (s0 : ByteArray) (s5 : Int) (s6 : Bool) (s7 : Int) : r1_Parse.l0.c (fun q => (k0 q).map f) (fun q => (k1 q).map f) (fun q => (k q).map f) s0 s5 s6 s7 = (r1_Parse.l0.c k0 k1 k s0 s5 s6 s7).map f :=
  let t1 := IntKind.i64.wrap (s5 + 1); r1_Parse.l0.p0 f k0 k1 k s0 s5 s6 s7 t1
theorem r1_Parse.l1.p0 {γ δ : Type} (f : γ → δ) (k1 : ByteArray × Bool × Int × Bool × Int → Option γ) (k : Int × Int × Int → Option γ) (s0 : ByteArray) (s6 : Bool) (s8 : Int) (s9 : Bool) (s10 : Int) (t1 : Int) (t2 : Int) (t3 : Int) (t4 : Int) (t5 : Int) (t6 : Int) (t7 : Int) (t8 : Int) (t9 : Bool) (t10 : Int) : r1_Parse.l1.c0 (fun q => (k1 q).map f) (fun q => (k q).map f) s0 s6 s8 s9 s10 t1 t2 t3 t4 t5 t6 t7 t8 t9 t10 = (r1_Parse.l1.c0 k1 k s0 s6 s8 s9 s10 t1 t2 t3 t4 t5 t6 t7 t8 t9 t10).map f := by
  unfold r1_Parse.l1.c0; (repeat' (first | (apply pm f) | (exact rfl)))
theorem r1_Parse.l1.p {γ δ : Type} (f : γ → δ) (k1 : ByteArray × Bool × Int × Bool × Int → Option γ) (k : Int × Int × Int → Option γ) (s0 : ByteArray) (s6 : Bool) (s8 : Int) (s9 : Bool) (s10 : Int) : r1_Parse.l1.c (fun q => (k1 q).map f) (fun q => (k q).map f) s0 s6 s8 s9 s10 = (r1_Parse.l1.c k1 k s0 s6 s8 s9 s10).map f :=
  let t1 := IntKind.u64.wrap (s8 * 10); let t2 := IntKind.u8.wrap (byteAt s0 s10 - 48); let t3 := IntKind.u64.wrap t2; let t4 := IntKind.u64.wrap (t1 + t3); let t5 := IntKind.i64.wrap (s10 + 1); let t6 := IntKind.u64.wrap (9223372036854775808 - t3); let t7 := IntKind.u64.wrap (t6.tdiv 10); let t8 := IntKind.i64.wrap s8; let t9 := r1_Neg.ok t8; let t10 := r1_Neg t8; r1_Parse.l1.p0 f k1 k s0 s6 s8 s9 s10 t1 t2 t3 t4 t5 t6 t7 t8 t9 t10
theorem r1_Parse.p0 {γ δ : Type} (f : γ → δ) (k0 : ByteArray × Int × Bool × Int → Option γ) (k : Int × Int × Int → Option γ) (a : ByteArray) (t1 : Int) : r1_Parse.c0 (fun q => (k0 q).map f) (fun q => (k q).map f) a t1 = (r1_Parse.c0 k0 k a t1).map f := by
  unfold r1_Parse.c0; (repeat' (first | (apply pm f) | (exact rfl)))
theorem r1_Parse.p {γ δ : Type} (f : γ → δ) (k0 : ByteArray × Int × Bool × Int → Option γ) (k : Int × Int × Int → Option γ) (a : ByteArray) : r1_Parse.c (fun q => (k0 q).map f) (fun q => (k q).map f) a = (r1_Parse.c k0 k a).map f :=
  let t1 := bif byteAt a 0 == 45 then 1 else 0; r1_Parse.p0 f k0 k a t1
theorem r1_Parse.S1.ok (N : Nat) : LoopsOK P G (r1_Parse.H1 ).sums r1_Parse.B1 := by
  refine LoopsOK_code fun i hi F hF => ?_
  have hlen : (loopsOf r1_Parse.B1).length = 0 := by kernel_rfl
  rw [hlen] at hi
  omega

theorem r1_Parse.S1.snd (N : Nat) : SoundL P G r1_Parse.B1 (r1_Parse.S1 N) := sumN_sound C.mixed C.names r1_Print.t (r1_Parse.S1.ok N) N
theorem r1_Parse.S0.ok (N : Nat) : LoopsOK P G (r1_Parse.H0 ).sums r1_Parse.B0 := by
  refine LoopsOK_code fun i hi F hF => ?_
  have hlen : (loopsOf r1_Parse.B0).length = 0 := by kernel_rfl
  rw [hlen] at hi
  omega

theorem r1_Parse.S0.snd (N : Nat) : SoundL P G r1_Parse.B0 (r1_Parse.S0 N) := sumN_sound C.mixed C.names r1_Print.t (r1_Parse.S0.ok N) N
theorem r1_Parse.l0.r (F0 F1 G0 G1 : LSum) (s0 : ByteArray) (s5 : Int) (s6 : Bool) (s7 : Int) : ex P G (tab L_r1_Print) (r1_Parse.H0 ) 60 r1_Parse.B0 (r1_Parse.e0 (s0, s5, s6, s7)) (roundK (r1_Parse.H0 ) r1_Parse.B0 G0 (r1_Parse.K0 F0 F1)) = r1_Parse.l0.c (fun q => G0.run (r1_Parse.e0 q) (r1_Parse.K0 F0 F1)) (fun q => F1.run (r1_Parse.e1 q) (r1_Parse.K1 F0 F1)) (fun q => some (r1_Parse.val q)) s0 s5 s6 s7 := by kernel_rfl
theorem r1_Parse.l1.r (F0 F1 G0 G1 : LSum) (s0 : ByteArray) (s6 : Bool) (s8 : Int) (s9 : Bool) (s10 : Int) : ex P G (tab L_r1_Print) (r1_Parse.H1 ) 60 r1_Parse.B1 (r1_Parse.e1 (s0, s6, s8, s9, s10)) (roundK (r1_Parse.H1 ) r1_Parse.B1 G1 (r1_Parse.K1 F0 F1)) = r1_Parse.l1.c (fun q => G1.run (r1_Parse.e1 q) (r1_Parse.K1 F0 F1)) (fun q => some (r1_Parse.val q)) s0 s6 s8 s9 s10 := by kernel_rfl
theorem r1_Parse.r (F0 F1 : LSum) (a : ByteArray) : runF P G (tab L_r1_Print) (r1_Parse.H F0 F1) 60 Tryd.f8 [.string a] = r1_Parse.c (fun q => F0.run (r1_Parse.e0 q) (r1_Parse.K0 F0 F1)) (fun q => some (r1_Parse.val q)) a := by kernel_rfl
theorem r1_Parse.L1.ok (N : Nat) (F0 F1 : LSum)   : ∀ m q, (sumN P G (tab L_r1_Print) (r1_Parse.H1 ) 60 r1_Parse.B1 m).run (r1_Parse.e1 q) (r1_Parse.K1 F0 F1) = (r1_Parse.L1 N  m q).map r1_Parse.val
  | 0, q => rfl
  | m + 1, q => by
    have ih := r1_Parse.L1.ok N F0 F1   m
    refine (sumN_run (n := m) rfl).trans ((r1_Parse.l1.r F0 F1 noSum (sumN P G (tab L_r1_Print) (r1_Parse.H1 ) 60 r1_Parse.B1 m) (q).1 (q).2.1 (q).2.2.1 (q).2.2.2.1 (q).2.2.2.2).trans ?_)
    refine Eq.trans ?_ (r1_Parse.l1.p r1_Parse.val (r1_Parse.L1 N m) some (q).1 (q).2.1 (q).2.2.1 (q).2.2.2.1 (q).2.2.2.2)
    have e1 : (fun q => (sumN P G (tab L_r1_Print) (r1_Parse.H1 ) 60 r1_Parse.B1 m).run (r1_Parse.e1 q) (r1_Parse.K1 F0 F1)) = (fun q => ((r1_Parse.L1 N m) q).map r1_Parse.val) := funext ih
    rw [e1]; rfl

theorem r1_Parse.L0.ok (N : Nat) (F0 F1 : LSum) (l1 : ByteArray × Bool × Int × Bool × Int → Option (Int × Int × Int)) (h1 : ∀ q, F1.run (r1_Parse.e1 q) (r1_Parse.K1 F0 F1) = (l1 q).map r1_Parse.val) : ∀ m q, (sumN P G (tab L_r1_Print) (r1_Parse.H0 ) 60 r1_Parse.B0 m).run (r1_Parse.e0 q) (r1_Parse.K0 F0 F1) = (r1_Parse.L0 N l1 m q).map r1_Parse.val
  | 0, q => rfl
  | m + 1, q => by
    have ih := r1_Parse.L0.ok N F0 F1 l1 h1 m
    refine (sumN_run (n := m) rfl).trans ((r1_Parse.l0.r F0 F1 (sumN P G (tab L_r1_Print) (r1_Parse.H0 ) 60 r1_Parse.B0 m) noSum (q).1 (q).2.1 (q).2.2.1 (q).2.2.2).trans ?_)
    refine Eq.trans ?_ (r1_Parse.l0.p r1_Parse.val (r1_Parse.L0 N l1 m) l1 some (q).1 (q).2.1 (q).2.2.1 (q).2.2.2)
    have e0 : (fun q => (sumN P G (tab L_r1_Print) (r1_Parse.H0 ) 60 r1_Parse.B0 m).run (r1_Parse.e0 q) (r1_Parse.K0 F0 F1)) = (fun q => ((r1_Parse.L0 N l1 m) q).map r1_Parse.val) := funext ih
    have e1 : (fun q => F1.run (r1_Parse.e1 q) (r1_Parse.K1 F0 F1)) = (fun q => (l1 q).map r1_Parse.val) := funext h1
    rw [e0, e1]; rfl

theorem r1_Parse.q (N : Nat) (a : ByteArray) : runF P G (tab L_r1_Print) (r1_Parse.H (r1_Parse.S0 N) (r1_Parse.S1 N)) 60 Tryd.f8 [.string a] = (r1_Parse.o N a).map r1_Parse.val := by
  have hk1 := r1_Parse.L1.ok N (r1_Parse.S0 N) (r1_Parse.S1 N)   N
  have hk0 := r1_Parse.L0.ok N (r1_Parse.S0 N) (r1_Parse.S1 N) (r1_Parse.L1 N  N) hk1 N
  refine (r1_Parse.r (r1_Parse.S0 N) (r1_Parse.S1 N) a).trans ?_
  refine Eq.trans ?_ (r1_Parse.p r1_Parse.val (r1_Parse.L0 N (r1_Parse.L1 N  N) N) some a)
  have e0 : (fun q => (r1_Parse.S0 N).run (r1_Parse.e0 q) (r1_Parse.K0 (r1_Parse.S0 N) (r1_Parse.S1 N))) = (fun q => ((r1_Parse.L0 N (r1_Parse.L1 N  N) N) q).map r1_Parse.val) := funext hk0
  rw [e0]; rfl

theorem r1_Parse.lok (N : Nat) : LoopsOK P G (r1_Parse.H (r1_Parse.S0 N) (r1_Parse.S1 N)).sums (fbody Tryd.f8) := by
  refine LoopsOK_code fun i hi F hF => ?_
  have hlen : (loopsOf (fbody Tryd.f8)).length = 2 := by kernel_rfl
  rw [hlen] at hi
  match i, hi with
  | 0, _ => exact soundAt (B' := r1_Parse.B0) (by kernel_rfl) (by kernel_rfl) (r1_Parse.S0.snd N) hF
  | 1, _ => exact soundAt (B' := r1_Parse.B1) (by kernel_rfl) (by kernel_rfl) (r1_Parse.S1.snd N) hF
  | _ + 2, h => omega

def r1_Parse (a : ByteArray) : Int × Int × Int := hide ((r1_Parse.o (a.size + 2) a).getD (0, 0, 0))
def r1_Parse.g (a : ByteArray) : Bool := hide (r1_Parse.o (a.size + 2) a).isSome
theorem r1_Parse.s (a : ByteArray) (h : r1_Parse.g a = true) : r1_Parse.o (a.size + 2) a = some (r1_Parse a) := by
  unfold r1_Parse.g at h; unfold r1_Parse; simp only [hide_eq] at h ⊢; revert h; cases r1_Parse.o (a.size + 2) a <;> simp
def r1_Parse.F : FV := mkF (cP cS cU) (fun | (a, ()) => r1_Parse.g a) (fun | (a, ()) => r1_Parse.val (r1_Parse a))
def L_r1_Parse : TL := (8, r1_Parse.F) :: L_r1_Print
theorem r1_Parse.t : TabOK P G (tab L_r1_Parse) :=
  TabOK_mkH C r1_Print.t Tryd.func8 (by kernel_rfl) (fun | (a, ()) => r1_Parse.H (r1_Parse.S0 (a.size + 2)) (r1_Parse.S1 (a.size + 2))) (by rintro ⟨a, ⟨⟩⟩; exact r1_Parse.lok _) 60 (by
    rintro ⟨a, ⟨⟩⟩ h
    exact (r1_Parse.q (a.size + 2) a).trans (congrArg (Option.map r1_Parse.val) (r1_Parse.s a h)))

end
end Go.Proofs.YtfcgmfefdgcmjaaDoor.V
