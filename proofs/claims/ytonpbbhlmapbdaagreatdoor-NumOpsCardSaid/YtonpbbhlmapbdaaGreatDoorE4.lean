/- What the functions of this seat compute, told by evaluation of their code. Conditions: none. -/
import Derived.Test.YtonpbbhlmapbdaaGreatDoorE3
set_option linter.unusedVariables false
set_option linter.unusedSimpArgs false
namespace Go.Proofs.YtonpbbhlmapbdaaGreatDoor.V
open Go Go.Wk
noncomputable section
def B.cong_Norm.c {γ : Type} (n : γ) (k : Int × Int → γ) (a0 : Int) (a1 : Int) : γ := bif decide (a0 > 0)
  then bif !decide (a0 = 0)
   then k (a0, a1.tmod a0)
   else n
  else k (a0, a1)
def B.cong_Norm.ok (a0 : Int) (a1 : Int) : Bool := B.cong_Norm.c false (fun _ => true) a0 a1
def B.cong_Norm (a0 : Int) (a1 : Int) : Int × Int := B.cong_Norm.c (0, 0) id a0 a1
def B.cong_Norm.F : FV := mkF (cP (cA (cP (cI .u64) (cP (cI .u64) cU))) cU) (fun _ => true) (fun | ((a0, (a1, ())), ()) => .agg #[.int .u64 (B.cong_Norm a0 a1).1, .int .u64 (B.cong_Norm a0 a1).2])
def L_B.cong_Norm : TL := (55, B.cong_Norm.F) :: L_A.ref_Rem
theorem B.cong_Norm.okt (a0 : Int) (a1 : Int) : B.cong_Norm.ok a0 a1 = true := by
  unfold B.cong_Norm.ok B.cong_Norm.c; by_cases h : a0 = 0 <;> simp [h] <;> omega
theorem B.cong_Norm.p {γ : Type} (k : Int × Int → γ) (a0 : Int) (a1 : Int) (h : B.cong_Norm.ok a0 a1 = true) : B.cong_Norm.c none (fun q => some (k q)) a0 a1 = some (k (B.cong_Norm a0 a1)) := by
  revert h; unfold B.cong_Norm B.cong_Norm.ok B.cong_Norm.c; (repeat' (first | (apply pn k) | (exact pn_none _ _) | (exact pn_leaf k _)))
theorem B.cong_Norm.r (a0 : Int) (a1 : Int) : runF P G (tab L_A.ref_Rem) { merge := true } 60 Tryz.f55 [.agg #[.int .u64 a0, .int .u64 a1]] = B.cong_Norm.c none (fun q => some (.agg #[.int .u64 (q).1, .int .u64 (q).2] : Value)) a0 a1 := by kernel_rfl
theorem B.cong_Norm.t : TabOK P G (tab L_B.cong_Norm) :=
  TabOK_mk C A.ref_Rem.t Tryz.func55 (by kernel_rfl) true 60 (by
    rintro ⟨⟨a0, ⟨a1, ⟨⟩⟩⟩, ⟨⟩⟩ h
    exact (B.cong_Norm.r a0 a1).trans (B.cong_Norm.p (fun q => (.agg #[.int .u64 (q).1, .int .u64 (q).2] : Value)) a0 a1 (B.cong_Norm.okt a0 a1)))
def B.cong_Const.c0 {γ : Type} (k : Int × Int → γ) (a : Int) (t1 : Int) : γ := k (0, t1)
def B.cong_Const.c {γ : Type} (k : Int × Int → γ) (a : Int) : γ := let t1 := IntKind.u64.wrap a; B.cong_Const.c0 k a t1
def B.cong_Const (a : Int) : Int × Int := B.cong_Const.c id a
def B.cong_Const.F : FV := mkF (cP (cI .i64) cU) (fun _ => true) (fun | (a, ()) => .agg #[.int .u64 (B.cong_Const a).1, .int .u64 (B.cong_Const a).2])
def L_B.cong_Const : TL := (58, B.cong_Const.F) :: L_B.cong_Norm
theorem B.cong_Const.p0 {γ : Type} (k : Int × Int → γ) (a : Int) (t1 : Int) : B.cong_Const.c0 k a t1 = k (B.cong_Const.c0 id a t1) := by
  unfold B.cong_Const.c0; (repeat' (first | (apply pc k) | (exact rfl)))
theorem B.cong_Const.p {γ : Type} (k : Int × Int → γ) (a : Int) : B.cong_Const.c k a = k (B.cong_Const a) :=
  let t1 := IntKind.u64.wrap a; B.cong_Const.p0 k a t1
theorem B.cong_Const.r (a : Int) : runF P G (tab L_B.cong_Norm) { merge := true } 60 Tryz.f58 [.int .i64 a] = B.cong_Const.c (fun q => some (.agg #[.int .u64 (q).1, .int .u64 (q).2] : Value)) a := by kernel_rfl
theorem B.cong_Const.t : TabOK P G (tab L_B.cong_Const) :=
  TabOK_mk C B.cong_Norm.t Tryz.func58 (by kernel_rfl) true 60 (by
    rintro ⟨a, ⟨⟩⟩ h
    exact (B.cong_Const.r a).trans (B.cong_Const.p (fun q => some (.agg #[.int .u64 (q).1, .int .u64 (q).2] : Value)) a))
def B.cong_alone.c {γ : Type} (k : Bool → γ) (a0 : Int) (a1 : Int) : γ := k (a0 == 0)
def B.cong_alone (a0 : Int) (a1 : Int) : Bool := B.cong_alone.c id a0 a1
def B.cong_alone.F : FV := mkF (cP (cA (cP (cI .u64) (cP (cI .u64) cU))) cU) (fun _ => true) (fun | ((a0, (a1, ())), ()) => .bool (B.cong_alone a0 a1))
def L_B.cong_alone : TL := (138, B.cong_alone.F) :: L_B.cong_Const
theorem B.cong_alone.p {γ : Type} (k : Bool → γ) (a0 : Int) (a1 : Int) : B.cong_alone.c k a0 a1 = k (B.cong_alone a0 a1) := by
  unfold B.cong_alone B.cong_alone.c; (repeat' (first | (apply pc k) | (exact rfl)))
theorem B.cong_alone.r (a0 : Int) (a1 : Int) : runF P G (tab L_B.cong_Const) { merge := true } 60 Tryz.f138 [.agg #[.int .u64 a0, .int .u64 a1]] = B.cong_alone.c (fun q => some (.bool (q) : Value)) a0 a1 := by kernel_rfl
theorem B.cong_alone.t : TabOK P G (tab L_B.cong_alone) :=
  TabOK_mk C B.cong_Const.t Tryz.func138 (by kernel_rfl) true 60 (by
    rintro ⟨⟨a0, ⟨a1, ⟨⟩⟩⟩, ⟨⟩⟩ h
    exact (B.cong_alone.r a0 a1).trans (B.cong_alone.p (fun q => some (.bool (q) : Value)) a0 a1))
def B.cong_rest.c0 {γ : Type} (n : γ) (k : Int → γ) (a0 : Int) (a1 : Int) (b : Int) (t1 : Bool) (t2 : Int) (t3 : Int) : γ := bif t1
  then k (t3)
  else bif b == 0
   then k (a1)
   else bif !decide (b = 0)
    then k (a1.tmod b)
    else n
def B.cong_rest.c {γ : Type} (n : γ) (k : Int → γ) (a0 : Int) (a1 : Int) (b : Int) : γ := let t1 := B.cong_alone a0 a1; let t2 := IntKind.i64.wrap a1; let t3 := word_Mod t2 b; B.cong_rest.c0 n k a0 a1 b t1 t2 t3
def B.cong_rest.ok (a0 : Int) (a1 : Int) (b : Int) : Bool := B.cong_rest.c false (fun _ => true) a0 a1 b
def B.cong_rest (a0 : Int) (a1 : Int) (b : Int) : Int := B.cong_rest.c (0) id a0 a1 b
def B.cong_rest.F : FV := mkF (cP (cA (cP (cI .u64) (cP (cI .u64) cU))) (cP (cI .u64) cU)) (fun _ => true) (fun | ((a0, (a1, ())), (b, ())) => .int .u64 (B.cong_rest a0 a1 b))
def L_B.cong_rest : TL := (139, B.cong_rest.F) :: L_B.cong_alone
theorem B.cong_rest.okt (a0 : Int) (a1 : Int) (b : Int) : B.cong_rest.ok a0 a1 b = true := by
  unfold B.cong_rest.ok B.cong_rest.c B.cong_rest.c0; cases B.cong_alone a0 a1 <;> by_cases h : b = 0 <;> simp [h]
theorem B.cong_rest.p0 {γ : Type} (k : Int → γ) (a0 : Int) (a1 : Int) (b : Int) (t1 : Bool) (t2 : Int) (t3 : Int) : B.cong_rest.c0 false (fun _ => true) a0 a1 b t1 t2 t3 = true → B.cong_rest.c0 none (fun q => some (k q)) a0 a1 b t1 t2 t3 = some (k (B.cong_rest.c0 (0) id a0 a1 b t1 t2 t3)) := by
  unfold B.cong_rest.c0; (repeat' (first | (apply pn k) | (exact pn_none _ _) | (exact pn_leaf k _)))
theorem B.cong_rest.p {γ : Type} (k : Int → γ) (a0 : Int) (a1 : Int) (b : Int) (h : B.cong_rest.ok a0 a1 b = true) : B.cong_rest.c none (fun q => some (k q)) a0 a1 b = some (k (B.cong_rest a0 a1 b)) :=
  let t1 := B.cong_alone a0 a1; let t2 := IntKind.i64.wrap a1; let t3 := word_Mod t2 b; B.cong_rest.p0 k a0 a1 b t1 t2 t3 h
theorem B.cong_rest.r (a0 : Int) (a1 : Int) (b : Int) : runF P G (tab L_B.cong_alone) { merge := true } 60 Tryz.f139 [.agg #[.int .u64 a0, .int .u64 a1], .int .u64 b] = B.cong_rest.c none (fun q => some (.int .u64 (q) : Value)) a0 a1 b := by kernel_rfl
theorem B.cong_rest.t : TabOK P G (tab L_B.cong_rest) :=
  TabOK_mk C B.cong_alone.t Tryz.func139 (by kernel_rfl) true 60 (by
    rintro ⟨⟨a0, ⟨a1, ⟨⟩⟩⟩, ⟨b, ⟨⟩⟩⟩ h
    exact (B.cong_rest.r a0 a1 b).trans (B.cong_rest.p (fun q => (.int .u64 (q) : Value)) a0 a1 b (B.cong_rest.okt a0 a1 b)))
def B.cong_two.c0 {γ : Type} (k : Int → γ) (a : Int) (t1 : Int) : γ := bif a == 0
  then k (9223372036854775808)
  else k (t1)
def B.cong_two.c {γ : Type} (k : Int → γ) (a : Int) : γ := let t1 := word_Even a; B.cong_two.c0 k a t1
def B.cong_two (a : Int) : Int := B.cong_two.c id a
def B.cong_two.F : FV := mkF (cP (cI .u64) cU) (fun _ => true) (fun | (a, ()) => .int .u64 (B.cong_two a))
def L_B.cong_two : TL := (246, B.cong_two.F) :: L_B.cong_rest
theorem B.cong_two.p0 {γ : Type} (k : Int → γ) (a : Int) (t1 : Int) : B.cong_two.c0 k a t1 = k (B.cong_two.c0 id a t1) := by
  unfold B.cong_two.c0; (repeat' (first | (apply pc k) | (exact rfl)))
theorem B.cong_two.p {γ : Type} (k : Int → γ) (a : Int) : B.cong_two.c k a = k (B.cong_two a) :=
  let t1 := word_Even a; B.cong_two.p0 k a t1
theorem B.cong_two.r (a : Int) : runF P G (tab L_B.cong_rest) { merge := true } 60 Tryz.f246 [.int .u64 a] = B.cong_two.c (fun q => some (.int .u64 (q) : Value)) a := by kernel_rfl
theorem B.cong_two.t : TabOK P G (tab L_B.cong_two) :=
  TabOK_mk C B.cong_rest.t Tryz.func246 (by kernel_rfl) true 60 (by
    rintro ⟨a, ⟨⟩⟩ h
    exact (B.cong_two.r a).trans (B.cong_two.p (fun q => some (.int .u64 (q) : Value)) a))
def B.cong_minus.c0 {γ : Type} (k : Int → γ) (a : Int) (b : Int) (c : Int) (t1 : Int) (t2 : Int) (t3 : Int) : γ := bif decide (a ≥ b)
  then k (t1)
  else k (t3)
def B.cong_minus.c {γ : Type} (k : Int → γ) (a : Int) (b : Int) (c : Int) : γ := let t1 := IntKind.u64.wrap (a - b); let t2 := IntKind.u64.wrap (c - b); let t3 := IntKind.u64.wrap (t2 + a); B.cong_minus.c0 k a b c t1 t2 t3
def B.cong_minus (a : Int) (b : Int) (c : Int) : Int := B.cong_minus.c id a b c
def B.cong_minus.F : FV := mkF (cP (cI .u64) (cP (cI .u64) (cP (cI .u64) cU))) (fun _ => true) (fun | (a, (b, (c, ()))) => .int .u64 (B.cong_minus a b c))
def L_B.cong_minus : TL := (145, B.cong_minus.F) :: L_B.cong_two
theorem B.cong_minus.p0 {γ : Type} (k : Int → γ) (a : Int) (b : Int) (c : Int) (t1 : Int) (t2 : Int) (t3 : Int) : B.cong_minus.c0 k a b c t1 t2 t3 = k (B.cong_minus.c0 id a b c t1 t2 t3) := by
  unfold B.cong_minus.c0; (repeat' (first | (apply pc k) | (exact rfl)))
theorem B.cong_minus.p {γ : Type} (k : Int → γ) (a : Int) (b : Int) (c : Int) : B.cong_minus.c k a b c = k (B.cong_minus a b c) :=
  let t1 := IntKind.u64.wrap (a - b); let t2 := IntKind.u64.wrap (c - b); let t3 := IntKind.u64.wrap (t2 + a); B.cong_minus.p0 k a b c t1 t2 t3
theorem B.cong_minus.r (a : Int) (b : Int) (c : Int) : runF P G (tab L_B.cong_two) { merge := true } 60 Tryz.f145 [.int .u64 a, .int .u64 b, .int .u64 c] = B.cong_minus.c (fun q => some (.int .u64 (q) : Value)) a b c := by kernel_rfl
theorem B.cong_minus.t : TabOK P G (tab L_B.cong_minus) :=
  TabOK_mk C B.cong_two.t Tryz.func145 (by kernel_rfl) true 60 (by
    rintro ⟨a, ⟨b, ⟨c, ⟨⟩⟩⟩⟩ h
    exact (B.cong_minus.r a b c).trans (B.cong_minus.p (fun q => some (.int .u64 (q) : Value)) a b c))
def B.cong_plus.c0 {γ : Type} (k : Int → γ) (a : Int) (b : Int) (c : Int) (t1 : Int) (t2 : Int) (t3 : Int) : γ := bif decide (b ≥ t1)
  then k (t2)
  else k (t3)
def B.cong_plus.c {γ : Type} (k : Int → γ) (a : Int) (b : Int) (c : Int) : γ := let t1 := IntKind.u64.wrap (c - a); let t2 := IntKind.u64.wrap (b - t1); let t3 := IntKind.u64.wrap (a + b); B.cong_plus.c0 k a b c t1 t2 t3
def B.cong_plus (a : Int) (b : Int) (c : Int) : Int := B.cong_plus.c id a b c
def B.cong_plus.F : FV := mkF (cP (cI .u64) (cP (cI .u64) (cP (cI .u64) cU))) (fun _ => true) (fun | (a, (b, (c, ()))) => .int .u64 (B.cong_plus a b c))
def L_B.cong_plus : TL := (205, B.cong_plus.F) :: L_B.cong_minus
theorem B.cong_plus.p0 {γ : Type} (k : Int → γ) (a : Int) (b : Int) (c : Int) (t1 : Int) (t2 : Int) (t3 : Int) : B.cong_plus.c0 k a b c t1 t2 t3 = k (B.cong_plus.c0 id a b c t1 t2 t3) := by
  unfold B.cong_plus.c0; (repeat' (first | (apply pc k) | (exact rfl)))
theorem B.cong_plus.p {γ : Type} (k : Int → γ) (a : Int) (b : Int) (c : Int) : B.cong_plus.c k a b c = k (B.cong_plus a b c) :=
  let t1 := IntKind.u64.wrap (c - a); let t2 := IntKind.u64.wrap (b - t1); let t3 := IntKind.u64.wrap (a + b); B.cong_plus.p0 k a b c t1 t2 t3
theorem B.cong_plus.r (a : Int) (b : Int) (c : Int) : runF P G (tab L_B.cong_minus) { merge := true } 60 Tryz.f205 [.int .u64 a, .int .u64 b, .int .u64 c] = B.cong_plus.c (fun q => some (.int .u64 (q) : Value)) a b c := by kernel_rfl
theorem B.cong_plus.t : TabOK P G (tab L_B.cong_plus) :=
  TabOK_mk C B.cong_minus.t Tryz.func205 (by kernel_rfl) true 60 (by
    rintro ⟨a, ⟨b, ⟨c, ⟨⟩⟩⟩⟩ h
    exact (B.cong_plus.r a b c).trans (B.cong_plus.p (fun q => some (.int .u64 (q) : Value)) a b c))
def B.cong_times.c0 {γ : Type} (n : γ) (k : Int → γ) (a : Int) (b : Int) (c : Int) (t1 : Int × Int) (t2 : Bool) (t3 : Int) : γ := bif t2
  then k (t3)
  else n
def B.cong_times.c {γ : Type} (n : γ) (k : Int → γ) (a : Int) (b : Int) (c : Int) : γ := let t1 := bits_Mul64 a b; let t2 := bits_Rem64.ok t1.fst t1.snd c; let t3 := bits_Rem64 t1.fst t1.snd c; B.cong_times.c0 n k a b c t1 t2 t3
def B.cong_times.ok (a : Int) (b : Int) (c : Int) : Bool := B.cong_times.c false (fun _ => true) a b c
def B.cong_times (a : Int) (b : Int) (c : Int) : Int := B.cong_times.c (0) id a b c
def B.cong_times.F : FV := mkF (cP (cI .u64) (cP (cI .u64) (cP (cI .u64) cU))) (fun | (a, (b, (c, ()))) => B.cong_times.ok a b c) (fun | (a, (b, (c, ()))) => .int .u64 (B.cong_times a b c))
def L_B.cong_times : TL := (146, B.cong_times.F) :: L_B.cong_plus
theorem B.cong_times.p0 {γ : Type} (k : Int → γ) (a : Int) (b : Int) (c : Int) (t1 : Int × Int) (t2 : Bool) (t3 : Int) : B.cong_times.c0 false (fun _ => true) a b c t1 t2 t3 = true → B.cong_times.c0 none (fun q => some (k q)) a b c t1 t2 t3 = some (k (B.cong_times.c0 (0) id a b c t1 t2 t3)) := by
  unfold B.cong_times.c0; (repeat' (first | (apply pn k) | (exact pn_none _ _) | (exact pn_leaf k _)))
theorem B.cong_times.p {γ : Type} (k : Int → γ) (a : Int) (b : Int) (c : Int) (h : B.cong_times.ok a b c = true) : B.cong_times.c none (fun q => some (k q)) a b c = some (k (B.cong_times a b c)) :=
  let t1 := bits_Mul64 a b; let t2 := bits_Rem64.ok t1.fst t1.snd c; let t3 := bits_Rem64 t1.fst t1.snd c; B.cong_times.p0 k a b c t1 t2 t3 h
theorem B.cong_times.r (a : Int) (b : Int) (c : Int) : runF P G (tab L_B.cong_plus) { merge := true } 60 Tryz.f146 [.int .u64 a, .int .u64 b, .int .u64 c] = B.cong_times.c none (fun q => some (.int .u64 (q) : Value)) a b c := by kernel_rfl
theorem B.cong_times.t : TabOK P G (tab L_B.cong_times) :=
  TabOK_mk C B.cong_plus.t Tryz.func146 (by kernel_rfl) true 60 (by
    rintro ⟨a, ⟨b, ⟨c, ⟨⟩⟩⟩⟩ h
    exact (B.cong_times.r a b c).trans (B.cong_times.p (fun q => (.int .u64 (q) : Value)) a b c h))
def B.cong_inverse.val (q : Int) : Value := .int .u64 (q)
def B.cong_inverse.h : List (Nat × List Nat × Nat) := [(3, [1, 5, 6, 7, 8], 0)]
def B.cong_inverse.e0 (q : Int × Int × Int × Int × Int) : St := { tmps := [.unk, .val (.int .u64 (q).1), .unk, .unk, .unk, .val (.int .u64 (q).2.1), .val (.int .u64 (q).2.2.1), .val (.int .u64 (q).2.2.2.1), .val (.int .u64 (q).2.2.2.2), .unk, .unk, .unk, .unk, .unk, .unk, .unk, .unk, .unk, .unk, .unk, .unk, .unk, .unk, .unk, .unk, .unk, .unk, .unk, .unk, .unk, .unk, .unk, .unk, .unk, .unk, .unk, .unk, .unk], blks := [], saved := [] }
noncomputable def B.cong_inverse.B0 : Code := loopAt [1, 1, 1, 0, 0] (fbody Tryz.f147)
noncomputable def B.cong_inverse.H (F0 : LSum) : Heads := { heads := B.cong_inverse.h, merge := true, sums := [(3, F0)] }
noncomputable def B.cong_inverse.H0  : Heads := { heads := B.cong_inverse.h, merge := true, sums := [] }
noncomputable def B.cong_inverse.K0 (F0 : LSum) : Xt → St → Option Value := kAt P G (tab L_B.cong_times) (B.cong_inverse.H F0) [1, 1, 1, 0, 0] 60 (fbody Tryz.f147) (retK P G Tryz.f147)
def B.cong_inverse.l0.c0 {γ : Type} (k0 : Int × Int × Int × Int × Int → Option γ) (k : Int → Option γ) (s1 : Int) (s5 : Int) (s6 : Int) (s7 : Int) (s8 : Int) (t1 : Int) (t2 : Bool) (t3 : Int) (t4 : Int) (t5 : Int) (t6 : Int) : Option γ := bif s6 != 0
  then bif !decide (s6 = 0)
   then bif !decide (s1 = 0)
    then bif t2
     then k0 (s1, s6, t4, s8, t6)
     else none
    else none
   else none
  else k (s7)
def B.cong_inverse.l0.c {γ : Type} (k0 : Int × Int × Int × Int × Int → Option γ) (k : Int → Option γ) (s1 : Int) (s5 : Int) (s6 : Int) (s7 : Int) (s8 : Int) : Option γ := let t1 := IntKind.u64.wrap (s5.tdiv s6); let t2 := B.cong_times.ok (t1.tmod s1) s8 s1; let t3 := IntKind.u64.wrap (t1 * s6); let t4 := IntKind.u64.wrap (s5 - t3); let t5 := B.cong_times (t1.tmod s1) s8 s1; let t6 := B.cong_minus s7 t5 s1; B.cong_inverse.l0.c0 k0 k s1 s5 s6 s7 s8 t1 t2 t3 t4 t5 t6
def B.cong_inverse.c {γ : Type} (k0 : Int × Int × Int × Int × Int → Option γ) (k : Int → Option γ) (a : Int) (b : Int) : Option γ := bif !decide (b = 0)
  then bif !decide (b = 0)
   then k0 (b, b, a.tmod b, 0, Int.tmod 1 b)
   else none
  else none
def B.cong_inverse.L0 (N : Nat)  : Nat → Int × Int × Int × Int × Int → Option (Int)
  | 0, _ => none
  | m + 1, q => B.cong_inverse.l0.c (B.cong_inverse.L0 N m) some (q).1 (q).2.1 (q).2.2.1 (q).2.2.2.1 (q).2.2.2.2
def B.cong_inverse.o (N : Nat) (a : Int) (b : Int) : Option (Int) := B.cong_inverse.c (B.cong_inverse.L0 N  N) some a b
noncomputable def B.cong_inverse.S0 (N : Nat) : LSum := sumN P G (tab L_B.cong_times) (B.cong_inverse.H0 ) 60 B.cong_inverse.B0 N
theorem B.cong_inverse.l0.p0 {γ δ : Type} (f : γ → δ) (k0 : Int × Int × Int × Int × Int → Option γ) (k : Int → Option γ) (s1 : Int) (s5 : Int) (s6 : Int) (s7 : Int) (s8 : Int) (t1 : Int) (t2 : Bool) (t3 : Int) (t4 : Int) (t5 : Int) (t6 : Int) : B.cong_inverse.l0.c0 (fun q => (k0 q).map f) (fun q => (k q).map f) s1 s5 s6 s7 s8 t1 t2 t3 t4 t5 t6 = (B.cong_inverse.l0.c0 k0 k s1 s5 s6 s7 s8 t1 t2 t3 t4 t5 t6).map f := by
  unfold B.cong_inverse.l0.c0; (repeat' (first | (apply pm f) | (exact rfl)))
theorem B.cong_inverse.l0.p {γ δ : Type} (f : γ → δ) (k0 : Int × Int × Int × Int × Int → Option γ) (k : Int → Option γ) (s1 : Int) (s5 : Int) (s6 : Int) (s7 : Int) (s8 : Int) : B.cong_inverse.l0.c (fun q => (k0 q).map f) (fun q => (k q).map f) s1 s5 s6 s7 s8 = (B.cong_inverse.l0.c k0 k s1 s5 s6 s7 s8).map f :=
  let t1 := IntKind.u64.wrap (s5.tdiv s6); let t2 := B.cong_times.ok (t1.tmod s1) s8 s1; let t3 := IntKind.u64.wrap (t1 * s6); let t4 := IntKind.u64.wrap (s5 - t3); let t5 := B.cong_times (t1.tmod s1) s8 s1; let t6 := B.cong_minus s7 t5 s1; B.cong_inverse.l0.p0 f k0 k s1 s5 s6 s7 s8 t1 t2 t3 t4 t5 t6
theorem B.cong_inverse.p {γ δ : Type} (f : γ → δ) (k0 : Int × Int × Int × Int × Int → Option γ) (k : Int → Option γ) (a : Int) (b : Int) : B.cong_inverse.c (fun q => (k0 q).map f) (fun q => (k q).map f) a b = (B.cong_inverse.c k0 k a b).map f := by
  unfold B.cong_inverse.c; (repeat' (first | (apply pm f) | (exact rfl)))
theorem B.cong_inverse.S0.ok (N : Nat) : LoopsOK P G (B.cong_inverse.H0 ).sums B.cong_inverse.B0 := by
  refine LoopsOK_code fun i hi F hF => ?_
  have hlen : (loopsOf B.cong_inverse.B0).length = 0 := by kernel_rfl
  rw [hlen] at hi
  omega
theorem B.cong_inverse.S0.snd (N : Nat) : SoundL P G B.cong_inverse.B0 (B.cong_inverse.S0 N) := sumN_sound C.mixed C.names B.cong_times.t (B.cong_inverse.S0.ok N) N
theorem B.cong_inverse.l0.r (F0 G0 : LSum) (s1 : Int) (s5 : Int) (s6 : Int) (s7 : Int) (s8 : Int) : ex P G (tab L_B.cong_times) (B.cong_inverse.H0 ) 60 B.cong_inverse.B0 (B.cong_inverse.e0 (s1, s5, s6, s7, s8)) (roundK (B.cong_inverse.H0 ) B.cong_inverse.B0 G0 (B.cong_inverse.K0 F0)) = B.cong_inverse.l0.c (fun q => G0.run (B.cong_inverse.e0 q) (B.cong_inverse.K0 F0)) (fun q => some (B.cong_inverse.val q)) s1 s5 s6 s7 s8 := by kernel_rfl
theorem B.cong_inverse.r (F0 : LSum) (a : Int) (b : Int) : runF P G (tab L_B.cong_times) (B.cong_inverse.H F0) 60 Tryz.f147 [.int .u64 a, .int .u64 b] = B.cong_inverse.c (fun q => F0.run (B.cong_inverse.e0 q) (B.cong_inverse.K0 F0)) (fun q => some (B.cong_inverse.val q)) a b := by kernel_rfl
theorem B.cong_inverse.L0.ok (N : Nat) (F0 : LSum)   : ∀ m q, (sumN P G (tab L_B.cong_times) (B.cong_inverse.H0 ) 60 B.cong_inverse.B0 m).run (B.cong_inverse.e0 q) (B.cong_inverse.K0 F0) = (B.cong_inverse.L0 N  m q).map B.cong_inverse.val
  | 0, q => rfl
  | m + 1, q => by
    have ih := B.cong_inverse.L0.ok N F0   m
    refine (sumN_run (n := m) rfl).trans ((B.cong_inverse.l0.r F0 (sumN P G (tab L_B.cong_times) (B.cong_inverse.H0 ) 60 B.cong_inverse.B0 m) (q).1 (q).2.1 (q).2.2.1 (q).2.2.2.1 (q).2.2.2.2).trans ?_)
    refine Eq.trans ?_ (B.cong_inverse.l0.p B.cong_inverse.val (B.cong_inverse.L0 N m) some (q).1 (q).2.1 (q).2.2.1 (q).2.2.2.1 (q).2.2.2.2)
    have e0 : (fun q => (sumN P G (tab L_B.cong_times) (B.cong_inverse.H0 ) 60 B.cong_inverse.B0 m).run (B.cong_inverse.e0 q) (B.cong_inverse.K0 F0)) = (fun q => ((B.cong_inverse.L0 N m) q).map B.cong_inverse.val) := funext ih
    rw [e0]; rfl
theorem B.cong_inverse.q (N : Nat) (a : Int) (b : Int) : runF P G (tab L_B.cong_times) (B.cong_inverse.H (B.cong_inverse.S0 N)) 60 Tryz.f147 [.int .u64 a, .int .u64 b] = (B.cong_inverse.o N a b).map B.cong_inverse.val := by
  have hk0 := B.cong_inverse.L0.ok N (B.cong_inverse.S0 N)   N
  refine (B.cong_inverse.r (B.cong_inverse.S0 N) a b).trans ?_
  refine Eq.trans ?_ (B.cong_inverse.p B.cong_inverse.val (B.cong_inverse.L0 N  N) some a b)
  have e0 : (fun q => (B.cong_inverse.S0 N).run (B.cong_inverse.e0 q) (B.cong_inverse.K0 (B.cong_inverse.S0 N))) = (fun q => ((B.cong_inverse.L0 N  N) q).map B.cong_inverse.val) := funext hk0
  rw [e0]; rfl
theorem B.cong_inverse.lok (N : Nat) : LoopsOK P G (B.cong_inverse.H (B.cong_inverse.S0 N)).sums (fbody Tryz.f147) := by
  refine LoopsOK_code fun i hi F hF => ?_
  have hlen : (loopsOf (fbody Tryz.f147)).length = 1 := by kernel_rfl
  rw [hlen] at hi
  match i, hi with
  | 0, _ => exact soundAt (B' := B.cong_inverse.B0) (by kernel_rfl) (by kernel_rfl) (B.cong_inverse.S0.snd N) hF
  | _ + 1, h => omega
def B.cong_inverse (a : Int) (b : Int) : Int := hide ((B.cong_inverse.o (b.toNat + 2) a b).getD (0))
def B.cong_inverse.g (a : Int) (b : Int) : Bool := hide (B.cong_inverse.o (b.toNat + 2) a b).isSome
theorem B.cong_inverse.s (a : Int) (b : Int) (h : B.cong_inverse.g a b = true) : B.cong_inverse.o (b.toNat + 2) a b = some (B.cong_inverse a b) := by
  unfold B.cong_inverse.g at h; unfold B.cong_inverse; simp only [hide_eq] at h ⊢; revert h; cases B.cong_inverse.o (b.toNat + 2) a b <;> simp
def B.cong_inverse.F : FV := mkF (cP (cI .u64) (cP (cI .u64) cU)) (fun | (a, (b, ())) => B.cong_inverse.g a b) (fun | (a, (b, ())) => B.cong_inverse.val (B.cong_inverse a b))
def L_B.cong_inverse : TL := (147, B.cong_inverse.F) :: L_B.cong_times
theorem B.cong_inverse.t : TabOK P G (tab L_B.cong_inverse) :=
  TabOK_mkH C B.cong_times.t Tryz.func147 (by kernel_rfl) (fun | (_, (b, ())) => B.cong_inverse.H (B.cong_inverse.S0 (b.toNat + 2))) (by rintro ⟨a, ⟨b, ⟨⟩⟩⟩; exact B.cong_inverse.lok _) 60 (by
    rintro ⟨a, ⟨b, ⟨⟩⟩⟩ h
    exact (B.cong_inverse.q (b.toNat + 2) a b).trans (congrArg (Option.map B.cong_inverse.val) (B.cong_inverse.s a b h)))
def B.cong_Has.c0 {γ : Type} (k : Bool → γ) (a0 : Int) (a1 : Int) (b : Int) (t1 : Int × Int) (t2 : Int) : γ := k (t2 == t1.snd)
def B.cong_Has.c {γ : Type} (k : Bool → γ) (a0 : Int) (a1 : Int) (b : Int) : γ := let t1 := B.cong_Norm a0 a1; let t2 := word_Mod b t1.fst; B.cong_Has.c0 k a0 a1 b t1 t2
def B.cong_Has (a0 : Int) (a1 : Int) (b : Int) : Bool := B.cong_Has.c id a0 a1 b
def B.cong_Has.F : FV := mkF (cP (cA (cP (cI .u64) (cP (cI .u64) cU))) (cP (cI .i64) cU)) (fun _ => true) (fun | ((a0, (a1, ())), (b, ())) => .bool (B.cong_Has a0 a1 b))
def L_B.cong_Has : TL := (66, B.cong_Has.F) :: L_B.cong_inverse
theorem B.cong_Has.p0 {γ : Type} (k : Bool → γ) (a0 : Int) (a1 : Int) (b : Int) (t1 : Int × Int) (t2 : Int) : B.cong_Has.c0 k a0 a1 b t1 t2 = k (B.cong_Has.c0 id a0 a1 b t1 t2) := by
  unfold B.cong_Has.c0; (repeat' (first | (apply pc k) | (exact rfl)))
theorem B.cong_Has.p {γ : Type} (k : Bool → γ) (a0 : Int) (a1 : Int) (b : Int) : B.cong_Has.c k a0 a1 b = k (B.cong_Has a0 a1 b) :=
  let t1 := B.cong_Norm a0 a1; let t2 := word_Mod b t1.fst; B.cong_Has.p0 k a0 a1 b t1 t2
theorem B.cong_Has.r (a0 : Int) (a1 : Int) (b : Int) : runF P G (tab L_B.cong_inverse) { merge := true } 60 Tryz.f66 [.agg #[.int .u64 a0, .int .u64 a1], .int .i64 b] = B.cong_Has.c (fun q => some (.bool (q) : Value)) a0 a1 b := by kernel_rfl
theorem B.cong_Has.t : TabOK P G (tab L_B.cong_Has) :=
  TabOK_mk C B.cong_inverse.t Tryz.func66 (by kernel_rfl) true 60 (by
    rintro ⟨⟨a0, ⟨a1, ⟨⟩⟩⟩, ⟨b, ⟨⟩⟩⟩ h
    exact (B.cong_Has.r a0 a1 b).trans (B.cong_Has.p (fun q => some (.bool (q) : Value)) a0 a1 b))
def B.cong_Leq.c0 {γ : Type} (n : γ) (k : Bool → γ) (a0 : Int) (a1 : Int) (b0 : Int) (b1 : Int) (t1 : Int × Int) (t2 : Bool) (t3 : Int × Int) (t4 : Int) : γ := bif t2
  then k (t3.fst == t1.fst && (t3.snd == t1.snd && true))
  else bif !decide (t1.fst = 0)
   then bif t3.fst.tmod t1.fst == 0
    then k (t4 == t1.snd)
    else k (false)
   else n
def B.cong_Leq.c {γ : Type} (n : γ) (k : Bool → γ) (a0 : Int) (a1 : Int) (b0 : Int) (b1 : Int) : γ := let t1 := B.cong_Norm b0 b1; let t2 := B.cong_alone t1.fst t1.snd; let t3 := B.cong_Norm a0 a1; let t4 := B.cong_rest t3.fst t3.snd t1.fst; B.cong_Leq.c0 n k a0 a1 b0 b1 t1 t2 t3 t4
def B.cong_Leq.ok (a0 : Int) (a1 : Int) (b0 : Int) (b1 : Int) : Bool := B.cong_Leq.c false (fun _ => true) a0 a1 b0 b1
def B.cong_Leq (a0 : Int) (a1 : Int) (b0 : Int) (b1 : Int) : Bool := B.cong_Leq.c (false) id a0 a1 b0 b1
def B.cong_Leq.F : FV := mkF (cP (cA (cP (cI .u64) (cP (cI .u64) cU))) (cP (cA (cP (cI .u64) (cP (cI .u64) cU))) cU)) (fun | ((a0, (a1, ())), ((b0, (b1, ())), ())) => B.cong_Leq.ok a0 a1 b0 b1) (fun | ((a0, (a1, ())), ((b0, (b1, ())), ())) => .bool (B.cong_Leq a0 a1 b0 b1))
def L_B.cong_Leq : TL := (70, B.cong_Leq.F) :: L_B.cong_Has
theorem B.cong_Leq.p0 {γ : Type} (k : Bool → γ) (a0 : Int) (a1 : Int) (b0 : Int) (b1 : Int) (t1 : Int × Int) (t2 : Bool) (t3 : Int × Int) (t4 : Int) : B.cong_Leq.c0 false (fun _ => true) a0 a1 b0 b1 t1 t2 t3 t4 = true → B.cong_Leq.c0 none (fun q => some (k q)) a0 a1 b0 b1 t1 t2 t3 t4 = some (k (B.cong_Leq.c0 (false) id a0 a1 b0 b1 t1 t2 t3 t4)) := by
  unfold B.cong_Leq.c0; (repeat' (first | (apply pn k) | (exact pn_none _ _) | (exact pn_leaf k _)))
theorem B.cong_Leq.p {γ : Type} (k : Bool → γ) (a0 : Int) (a1 : Int) (b0 : Int) (b1 : Int) (h : B.cong_Leq.ok a0 a1 b0 b1 = true) : B.cong_Leq.c none (fun q => some (k q)) a0 a1 b0 b1 = some (k (B.cong_Leq a0 a1 b0 b1)) :=
  let t1 := B.cong_Norm b0 b1; let t2 := B.cong_alone t1.fst t1.snd; let t3 := B.cong_Norm a0 a1; let t4 := B.cong_rest t3.fst t3.snd t1.fst; B.cong_Leq.p0 k a0 a1 b0 b1 t1 t2 t3 t4 h
theorem B.cong_Leq.r (a0 : Int) (a1 : Int) (b0 : Int) (b1 : Int) : runF P G (tab L_B.cong_Has) { merge := true } 60 Tryz.f70 [.agg #[.int .u64 a0, .int .u64 a1], .agg #[.int .u64 b0, .int .u64 b1]] = B.cong_Leq.c none (fun q => some (.bool (q) : Value)) a0 a1 b0 b1 := by kernel_rfl
theorem B.cong_Leq.t : TabOK P G (tab L_B.cong_Leq) :=
  TabOK_mk C B.cong_Has.t Tryz.func70 (by kernel_rfl) true 60 (by
    rintro ⟨⟨a0, ⟨a1, ⟨⟩⟩⟩, ⟨⟨b0, ⟨b1, ⟨⟩⟩⟩, ⟨⟩⟩⟩ h
    exact (B.cong_Leq.r a0 a1 b0 b1).trans (B.cong_Leq.p (fun q => (.bool (q) : Value)) a0 a1 b0 b1 h))
def B.cong_Join.c0 {γ : Type} (n : γ) (k : Int × Int → γ) (a0 : Int) (a1 : Int) (b0 : Int) (b1 : Int) (t1 : Int × Int) (t2 : Bool) (t3 : Int) (t4 : Int × Int) (t5 : Bool) (t6 : Int) (t7 : Int) (t8 : Int) (t9 : Int) (t10 : Int) (t11 : Int) (t12 : Int) (t13 : Int) (t14 : Int) (t15 : Bool) (t16 : Int) (t17 : Int) (t18 : Int) (t19 : Int) (t20 : Int) (t21 : Int) (t22 : Bool) (t23 : Int) (t24 : Int) : γ := bif t2
  then bif t5
   then bif t6 == 0
    then k (t13, t14)
    else bif t15
     then bif t22
      then k (t23, t24)
      else n
     else n
   else n
  else n
def B.cong_Join.c {γ : Type} (n : γ) (k : Int × Int → γ) (a0 : Int) (a1 : Int) (b0 : Int) (b1 : Int) : γ := let t1 := B.cong_Norm a0 a1; let t2 := word_Gcd.g 0 t1.fst; let t3 := word_Gcd 0 t1.fst; let t4 := B.cong_Norm b0 b1; let t5 := word_Gcd.g t3 t4.fst; let t6 := word_Gcd t3 t4.fst; let t7 := IntKind.i64.wrap t4.snd; let t8 := IntKind.i64.wrap t1.snd; let t9 := if t7 > t8 then t7 else t8; let t10 := IntKind.u64.wrap t9; let t11 := if t7 < t8 then t7 else t8; let t12 := IntKind.u64.wrap t11; let t13 := IntKind.u64.wrap (t10 - t12); let t14 := B.cong_rest t1.fst t1.snd t13; let t15 := word_Gcd.g 0 t6; let t16 := word_Gcd 0 t6; let t17 := B.cong_rest t4.fst t4.snd t6; let t18 := B.cong_rest t1.fst t1.snd t6; let t19 := if t17 > t18 then t17 else t18; let t20 := if t17 < t18 then t17 else t18; let t21 := IntKind.u64.wrap (t19 - t20); let t22 := word_Gcd.g t16 t21; let t23 := word_Gcd t16 t21; let t24 := B.cong_rest t1.fst t1.snd t23; B.cong_Join.c0 n k a0 a1 b0 b1 t1 t2 t3 t4 t5 t6 t7 t8 t9 t10 t11 t12 t13 t14 t15 t16 t17 t18 t19 t20 t21 t22 t23 t24
def B.cong_Join.ok (a0 : Int) (a1 : Int) (b0 : Int) (b1 : Int) : Bool := B.cong_Join.c false (fun _ => true) a0 a1 b0 b1
def B.cong_Join (a0 : Int) (a1 : Int) (b0 : Int) (b1 : Int) : Int × Int := B.cong_Join.c (0, 0) id a0 a1 b0 b1
def B.cong_Join.F : FV := mkF (cP (cA (cP (cI .u64) (cP (cI .u64) cU))) (cP (cA (cP (cI .u64) (cP (cI .u64) cU))) cU)) (fun | ((a0, (a1, ())), ((b0, (b1, ())), ())) => B.cong_Join.ok a0 a1 b0 b1) (fun | ((a0, (a1, ())), ((b0, (b1, ())), ())) => .agg #[.int .u64 (B.cong_Join a0 a1 b0 b1).1, .int .u64 (B.cong_Join a0 a1 b0 b1).2])
def L_B.cong_Join : TL := (74, B.cong_Join.F) :: L_B.cong_Leq
theorem B.cong_Join.p0 {γ : Type} (k : Int × Int → γ) (a0 : Int) (a1 : Int) (b0 : Int) (b1 : Int) (t1 : Int × Int) (t2 : Bool) (t3 : Int) (t4 : Int × Int) (t5 : Bool) (t6 : Int) (t7 : Int) (t8 : Int) (t9 : Int) (t10 : Int) (t11 : Int) (t12 : Int) (t13 : Int) (t14 : Int) (t15 : Bool) (t16 : Int) (t17 : Int) (t18 : Int) (t19 : Int) (t20 : Int) (t21 : Int) (t22 : Bool) (t23 : Int) (t24 : Int) : B.cong_Join.c0 false (fun _ => true) a0 a1 b0 b1 t1 t2 t3 t4 t5 t6 t7 t8 t9 t10 t11 t12 t13 t14 t15 t16 t17 t18 t19 t20 t21 t22 t23 t24 = true → B.cong_Join.c0 none (fun q => some (k q)) a0 a1 b0 b1 t1 t2 t3 t4 t5 t6 t7 t8 t9 t10 t11 t12 t13 t14 t15 t16 t17 t18 t19 t20 t21 t22 t23 t24 = some (k (B.cong_Join.c0 (0, 0) id a0 a1 b0 b1 t1 t2 t3 t4 t5 t6 t7 t8 t9 t10 t11 t12 t13 t14 t15 t16 t17 t18 t19 t20 t21 t22 t23 t24)) := by
  unfold B.cong_Join.c0; (repeat' (first | (apply pn k) | (exact pn_none _ _) | (exact pn_leaf k _)))
theorem B.cong_Join.p {γ : Type} (k : Int × Int → γ) (a0 : Int) (a1 : Int) (b0 : Int) (b1 : Int) (h : B.cong_Join.ok a0 a1 b0 b1 = true) : B.cong_Join.c none (fun q => some (k q)) a0 a1 b0 b1 = some (k (B.cong_Join a0 a1 b0 b1)) :=
  let t1 := B.cong_Norm a0 a1; let t2 := word_Gcd.g 0 t1.fst; let t3 := word_Gcd 0 t1.fst; let t4 := B.cong_Norm b0 b1; let t5 := word_Gcd.g t3 t4.fst; let t6 := word_Gcd t3 t4.fst; let t7 := IntKind.i64.wrap t4.snd; let t8 := IntKind.i64.wrap t1.snd; let t9 := if t7 > t8 then t7 else t8; let t10 := IntKind.u64.wrap t9; let t11 := if t7 < t8 then t7 else t8; let t12 := IntKind.u64.wrap t11; let t13 := IntKind.u64.wrap (t10 - t12); let t14 := B.cong_rest t1.fst t1.snd t13; let t15 := word_Gcd.g 0 t6; let t16 := word_Gcd 0 t6; let t17 := B.cong_rest t4.fst t4.snd t6; let t18 := B.cong_rest t1.fst t1.snd t6; let t19 := if t17 > t18 then t17 else t18; let t20 := if t17 < t18 then t17 else t18; let t21 := IntKind.u64.wrap (t19 - t20); let t22 := word_Gcd.g t16 t21; let t23 := word_Gcd t16 t21; let t24 := B.cong_rest t1.fst t1.snd t23; B.cong_Join.p0 k a0 a1 b0 b1 t1 t2 t3 t4 t5 t6 t7 t8 t9 t10 t11 t12 t13 t14 t15 t16 t17 t18 t19 t20 t21 t22 t23 t24 h
theorem B.cong_Join.r (a0 : Int) (a1 : Int) (b0 : Int) (b1 : Int) : runF P G (tab L_B.cong_Leq) { merge := true } 60 Tryz.f74 [.agg #[.int .u64 a0, .int .u64 a1], .agg #[.int .u64 b0, .int .u64 b1]] = B.cong_Join.c none (fun q => some (.agg #[.int .u64 (q).1, .int .u64 (q).2] : Value)) a0 a1 b0 b1 := by kernel_rfl
theorem B.cong_Join.t : TabOK P G (tab L_B.cong_Join) :=
  TabOK_mk C B.cong_Leq.t Tryz.func74 (by kernel_rfl) true 60 (by
    rintro ⟨⟨a0, ⟨a1, ⟨⟩⟩⟩, ⟨⟨b0, ⟨b1, ⟨⟩⟩⟩, ⟨⟩⟩⟩ h
    exact (B.cong_Join.r a0 a1 b0 b1).trans (B.cong_Join.p (fun q => (.agg #[.int .u64 (q).1, .int .u64 (q).2] : Value)) a0 a1 b0 b1 h))
def B.cong_next.c0 {γ : Type} (k : Int × Bool → γ) (a0 : Int) (a1 : Int) (b : Int) (c : Int) (t1 : Int × Int) (t2 : Bool) (t3 : Int) (t4 : Int) (t5 : Int) (t6 : Int) (t7 : Int) (t8 : Int) (t9 : Int) (t10 : Int) (t11 : Int) (t12 : Int) (t13 : Int) (t14 : Int) (t15 : Int) (t16 : Int) (t17 : Int) (t18 : Int) (t19 : Int) : γ := bif t2
  then bif t3 == b
   then k (t3, true)
   else bif decide (t3 > b) == decide (c > 0)
    then k (t3, true)
    else k (0, false)
  else bif decide (t5 ≥ t6)
   then bif decide (t7 ≤ t11)
    then k (t14, true)
    else k (0, false)
   else bif decide (t16 ≤ t11)
    then k (t19, true)
    else k (0, false)
def B.cong_next.c {γ : Type} (k : Int × Bool → γ) (a0 : Int) (a1 : Int) (b : Int) (c : Int) : γ := let t1 := B.cong_Norm a0 a1; let t2 := B.cong_alone t1.fst t1.snd; let t3 := IntKind.i64.wrap t1.snd; let t4 := word_Mod b t1.fst; let t5 := bif decide (c < 0) then t4 else t1.snd; let t6 := bif decide (c < 0) then t1.snd else t4; let t7 := IntKind.u64.wrap (t5 - t6); let t8 := IntKind.u64.wrap b; let t9 := IntKind.u64.wrap (t8 - 9223372036854775808); let t10 := IntKind.u64.wrap (9223372036854775807 - t8); let t11 := bif decide (c < 0) then t9 else t10; let t12 := IntKind.i64.wrap t7; let t13 := IntKind.i64.wrap (t12 * c); let t14 := IntKind.i64.wrap (b + t13); let t15 := IntKind.u64.wrap (t1.fst - t6); let t16 := IntKind.u64.wrap (t15 + t5); let t17 := IntKind.i64.wrap t16; let t18 := IntKind.i64.wrap (t17 * c); let t19 := IntKind.i64.wrap (b + t18); B.cong_next.c0 k a0 a1 b c t1 t2 t3 t4 t5 t6 t7 t8 t9 t10 t11 t12 t13 t14 t15 t16 t17 t18 t19
def B.cong_next (a0 : Int) (a1 : Int) (b : Int) (c : Int) : Int × Bool := B.cong_next.c id a0 a1 b c
def B.cong_next.F : FV := mkF (cP (cA (cP (cI .u64) (cP (cI .u64) cU))) (cP (cI .i64) (cP (cI .i64) cU))) (fun _ => true) (fun | ((a0, (a1, ())), (b, (c, ()))) => .tuple #[.int .i64 (B.cong_next a0 a1 b c).1, .bool (B.cong_next a0 a1 b c).2])
def L_B.cong_next : TL := (130, B.cong_next.F) :: L_B.cong_Join
theorem B.cong_next.p0 {γ : Type} (k : Int × Bool → γ) (a0 : Int) (a1 : Int) (b : Int) (c : Int) (t1 : Int × Int) (t2 : Bool) (t3 : Int) (t4 : Int) (t5 : Int) (t6 : Int) (t7 : Int) (t8 : Int) (t9 : Int) (t10 : Int) (t11 : Int) (t12 : Int) (t13 : Int) (t14 : Int) (t15 : Int) (t16 : Int) (t17 : Int) (t18 : Int) (t19 : Int) : B.cong_next.c0 k a0 a1 b c t1 t2 t3 t4 t5 t6 t7 t8 t9 t10 t11 t12 t13 t14 t15 t16 t17 t18 t19 = k (B.cong_next.c0 id a0 a1 b c t1 t2 t3 t4 t5 t6 t7 t8 t9 t10 t11 t12 t13 t14 t15 t16 t17 t18 t19) := by
  unfold B.cong_next.c0; (repeat' (first | (apply pc k) | (exact rfl)))
theorem B.cong_next.p {γ : Type} (k : Int × Bool → γ) (a0 : Int) (a1 : Int) (b : Int) (c : Int) : B.cong_next.c k a0 a1 b c = k (B.cong_next a0 a1 b c) :=
  let t1 := B.cong_Norm a0 a1; let t2 := B.cong_alone t1.fst t1.snd; let t3 := IntKind.i64.wrap t1.snd; let t4 := word_Mod b t1.fst; let t5 := bif decide (c < 0) then t4 else t1.snd; let t6 := bif decide (c < 0) then t1.snd else t4; let t7 := IntKind.u64.wrap (t5 - t6); let t8 := IntKind.u64.wrap b; let t9 := IntKind.u64.wrap (t8 - 9223372036854775808); let t10 := IntKind.u64.wrap (9223372036854775807 - t8); let t11 := bif decide (c < 0) then t9 else t10; let t12 := IntKind.i64.wrap t7; let t13 := IntKind.i64.wrap (t12 * c); let t14 := IntKind.i64.wrap (b + t13); let t15 := IntKind.u64.wrap (t1.fst - t6); let t16 := IntKind.u64.wrap (t15 + t5); let t17 := IntKind.i64.wrap t16; let t18 := IntKind.i64.wrap (t17 * c); let t19 := IntKind.i64.wrap (b + t18); B.cong_next.p0 k a0 a1 b c t1 t2 t3 t4 t5 t6 t7 t8 t9 t10 t11 t12 t13 t14 t15 t16 t17 t18 t19
theorem B.cong_next.r (a0 : Int) (a1 : Int) (b : Int) (c : Int) : runF P G (tab L_B.cong_Join) { merge := true } 60 Tryz.f130 [.agg #[.int .u64 a0, .int .u64 a1], .int .i64 b, .int .i64 c] = B.cong_next.c (fun q => some (.tuple #[.int .i64 (q).1, .bool (q).2] : Value)) a0 a1 b c := by kernel_rfl
theorem B.cong_next.t : TabOK P G (tab L_B.cong_next) :=
  TabOK_mk C B.cong_Join.t Tryz.func130 (by kernel_rfl) true 60 (by
    rintro ⟨⟨a0, ⟨a1, ⟨⟩⟩⟩, ⟨b, ⟨c, ⟨⟩⟩⟩⟩ h
    exact (B.cong_next.r a0 a1 b c).trans (B.cong_next.p (fun q => some (.tuple #[.int .i64 (q).1, .bool (q).2] : Value)) a0 a1 b c))
def B.cong_Up.c0 {γ : Type} (k : Int × Bool → γ) (a0 : Int) (a1 : Int) (b : Int) (t1 : Int × Bool) : γ := k (t1.fst, t1.snd)
def B.cong_Up.c {γ : Type} (k : Int × Bool → γ) (a0 : Int) (a1 : Int) (b : Int) : γ := let t1 := B.cong_next a0 a1 b 1; B.cong_Up.c0 k a0 a1 b t1
def B.cong_Up (a0 : Int) (a1 : Int) (b : Int) : Int × Bool := B.cong_Up.c id a0 a1 b
def B.cong_Up.F : FV := mkF (cP (cA (cP (cI .u64) (cP (cI .u64) cU))) (cP (cI .i64) cU)) (fun _ => true) (fun | ((a0, (a1, ())), (b, ())) => .tuple #[.int .i64 (B.cong_Up a0 a1 b).1, .bool (B.cong_Up a0 a1 b).2])
def L_B.cong_Up : TL := (56, B.cong_Up.F) :: L_B.cong_next
theorem B.cong_Up.p0 {γ : Type} (k : Int × Bool → γ) (a0 : Int) (a1 : Int) (b : Int) (t1 : Int × Bool) : B.cong_Up.c0 k a0 a1 b t1 = k (B.cong_Up.c0 id a0 a1 b t1) := by
  unfold B.cong_Up.c0; (repeat' (first | (apply pc k) | (exact rfl)))
theorem B.cong_Up.p {γ : Type} (k : Int × Bool → γ) (a0 : Int) (a1 : Int) (b : Int) : B.cong_Up.c k a0 a1 b = k (B.cong_Up a0 a1 b) :=
  let t1 := B.cong_next a0 a1 b 1; B.cong_Up.p0 k a0 a1 b t1
theorem B.cong_Up.r (a0 : Int) (a1 : Int) (b : Int) : runF P G (tab L_B.cong_next) { merge := true } 60 Tryz.f56 [.agg #[.int .u64 a0, .int .u64 a1], .int .i64 b] = B.cong_Up.c (fun q => some (.tuple #[.int .i64 (q).1, .bool (q).2] : Value)) a0 a1 b := by kernel_rfl
theorem B.cong_Up.t : TabOK P G (tab L_B.cong_Up) :=
  TabOK_mk C B.cong_next.t Tryz.func56 (by kernel_rfl) true 60 (by
    rintro ⟨⟨a0, ⟨a1, ⟨⟩⟩⟩, ⟨b, ⟨⟩⟩⟩ h
    exact (B.cong_Up.r a0 a1 b).trans (B.cong_Up.p (fun q => some (.tuple #[.int .i64 (q).1, .bool (q).2] : Value)) a0 a1 b))
def B.cong_Down.c0 {γ : Type} (k : Int × Bool → γ) (a0 : Int) (a1 : Int) (b : Int) (t1 : Int × Bool) : γ := k (t1.fst, t1.snd)
def B.cong_Down.c {γ : Type} (k : Int × Bool → γ) (a0 : Int) (a1 : Int) (b : Int) : γ := let t1 := B.cong_next a0 a1 b (-1); B.cong_Down.c0 k a0 a1 b t1
def B.cong_Down (a0 : Int) (a1 : Int) (b : Int) : Int × Bool := B.cong_Down.c id a0 a1 b
def B.cong_Down.F : FV := mkF (cP (cA (cP (cI .u64) (cP (cI .u64) cU))) (cP (cI .i64) cU)) (fun _ => true) (fun | ((a0, (a1, ())), (b, ())) => .tuple #[.int .i64 (B.cong_Down a0 a1 b).1, .bool (B.cong_Down a0 a1 b).2])
def L_B.cong_Down : TL := (57, B.cong_Down.F) :: L_B.cong_Up
theorem B.cong_Down.p0 {γ : Type} (k : Int × Bool → γ) (a0 : Int) (a1 : Int) (b : Int) (t1 : Int × Bool) : B.cong_Down.c0 k a0 a1 b t1 = k (B.cong_Down.c0 id a0 a1 b t1) := by
  unfold B.cong_Down.c0; (repeat' (first | (apply pc k) | (exact rfl)))
theorem B.cong_Down.p {γ : Type} (k : Int × Bool → γ) (a0 : Int) (a1 : Int) (b : Int) : B.cong_Down.c k a0 a1 b = k (B.cong_Down a0 a1 b) :=
  let t1 := B.cong_next a0 a1 b (-1); B.cong_Down.p0 k a0 a1 b t1
theorem B.cong_Down.r (a0 : Int) (a1 : Int) (b : Int) : runF P G (tab L_B.cong_Up) { merge := true } 60 Tryz.f57 [.agg #[.int .u64 a0, .int .u64 a1], .int .i64 b] = B.cong_Down.c (fun q => some (.tuple #[.int .i64 (q).1, .bool (q).2] : Value)) a0 a1 b := by kernel_rfl
theorem B.cong_Down.t : TabOK P G (tab L_B.cong_Down) :=
  TabOK_mk C B.cong_Up.t Tryz.func57 (by kernel_rfl) true 60 (by
    rintro ⟨⟨a0, ⟨a1, ⟨⟩⟩⟩, ⟨b, ⟨⟩⟩⟩ h
    exact (B.cong_Down.r a0 a1 b).trans (B.cong_Down.p (fun q => some (.tuple #[.int .i64 (q).1, .bool (q).2] : Value)) a0 a1 b))
def B.cong_Neg.c0 {γ : Type} (n : γ) (k : Int × Int → γ) (a0 : Int) (a1 : Int) (b : Bool) (t1 : Int × Int) (t2 : Bool) (t3 : Int) (t4 : Int) (t5 : Int × Int) (t6 : Int) (t7 : Int) (t8 : Int) (t9 : Int) : γ := bif t2
  then k (t5.fst, t5.snd)
  else bif !decide (t7 = 0)
   then k (t7, t9.tmod t7)
   else n
def B.cong_Neg.c {γ : Type} (n : γ) (k : Int × Int → γ) (a0 : Int) (a1 : Int) (b : Bool) : γ := let t1 := B.cong_Norm a0 a1; let t2 := B.cong_alone t1.fst t1.snd; let t3 := IntKind.i64.wrap t1.snd; let t4 := word_Neg t3; let t5 := B.cong_Const t4; let t6 := B.cong_two t1.fst; let t7 := bif !b then t6 else t1.fst; let t8 := B.cong_rest t1.fst t1.snd t7; let t9 := B.cong_minus 0 t8 t7; B.cong_Neg.c0 n k a0 a1 b t1 t2 t3 t4 t5 t6 t7 t8 t9
def B.cong_Neg.ok (a0 : Int) (a1 : Int) (b : Bool) : Bool := B.cong_Neg.c false (fun _ => true) a0 a1 b
def B.cong_Neg (a0 : Int) (a1 : Int) (b : Bool) : Int × Int := B.cong_Neg.c (0, 0) id a0 a1 b
def B.cong_Neg.F : FV := mkF (cP (cA (cP (cI .u64) (cP (cI .u64) cU))) (cP cB cU)) (fun | ((a0, (a1, ())), (b, ())) => B.cong_Neg.ok a0 a1 b) (fun | ((a0, (a1, ())), (b, ())) => .agg #[.int .u64 (B.cong_Neg a0 a1 b).1, .int .u64 (B.cong_Neg a0 a1 b).2])
def L_B.cong_Neg : TL := (117, B.cong_Neg.F) :: L_B.cong_Down
theorem B.cong_Neg.p0 {γ : Type} (k : Int × Int → γ) (a0 : Int) (a1 : Int) (b : Bool) (t1 : Int × Int) (t2 : Bool) (t3 : Int) (t4 : Int) (t5 : Int × Int) (t6 : Int) (t7 : Int) (t8 : Int) (t9 : Int) : B.cong_Neg.c0 false (fun _ => true) a0 a1 b t1 t2 t3 t4 t5 t6 t7 t8 t9 = true → B.cong_Neg.c0 none (fun q => some (k q)) a0 a1 b t1 t2 t3 t4 t5 t6 t7 t8 t9 = some (k (B.cong_Neg.c0 (0, 0) id a0 a1 b t1 t2 t3 t4 t5 t6 t7 t8 t9)) := by
  unfold B.cong_Neg.c0; (repeat' (first | (apply pn k) | (exact pn_none _ _) | (exact pn_leaf k _)))
theorem B.cong_Neg.p {γ : Type} (k : Int × Int → γ) (a0 : Int) (a1 : Int) (b : Bool) (h : B.cong_Neg.ok a0 a1 b = true) : B.cong_Neg.c none (fun q => some (k q)) a0 a1 b = some (k (B.cong_Neg a0 a1 b)) :=
  let t1 := B.cong_Norm a0 a1; let t2 := B.cong_alone t1.fst t1.snd; let t3 := IntKind.i64.wrap t1.snd; let t4 := word_Neg t3; let t5 := B.cong_Const t4; let t6 := B.cong_two t1.fst; let t7 := bif !b then t6 else t1.fst; let t8 := B.cong_rest t1.fst t1.snd t7; let t9 := B.cong_minus 0 t8 t7; B.cong_Neg.p0 k a0 a1 b t1 t2 t3 t4 t5 t6 t7 t8 t9 h
theorem B.cong_Neg.r (a0 : Int) (a1 : Int) (b : Bool) : runF P G (tab L_B.cong_Down) { merge := true } 60 Tryz.f117 [.agg #[.int .u64 a0, .int .u64 a1], .bool b] = B.cong_Neg.c none (fun q => some (.agg #[.int .u64 (q).1, .int .u64 (q).2] : Value)) a0 a1 b := by kernel_rfl
theorem B.cong_Neg.t : TabOK P G (tab L_B.cong_Neg) :=
  TabOK_mk C B.cong_Down.t Tryz.func117 (by kernel_rfl) true 60 (by
    rintro ⟨⟨a0, ⟨a1, ⟨⟩⟩⟩, ⟨b, ⟨⟩⟩⟩ h
    exact (B.cong_Neg.r a0 a1 b).trans (B.cong_Neg.p (fun q => (.agg #[.int .u64 (q).1, .int .u64 (q).2] : Value)) a0 a1 b h))
def B.cong_Add.c0 {γ : Type} (n : γ) (k : Int × Int → γ) (a0 : Int) (a1 : Int) (b0 : Int) (b1 : Int) (c : Bool) (t1 : Int × Int) (t2 : Bool) (t3 : Int × Int) (t4 : Bool) (t5 : Int) (t6 : Int) (t7 : Int) (t8 : Int × Int) (t9 : Bool) (t10 : Int) (t11 : Bool) (t12 : Int) (t13 : Int) (t14 : Int) (t15 : Int) (t16 : Int) (t17 : Int) : γ := bif t2
  then bif t4
   then k (t8.fst, t8.snd)
   else bif t9
    then bif t11
     then k (t14, t17)
     else n
    else n
  else bif t9
   then bif t11
    then k (t14, t17)
    else n
   else n
def B.cong_Add.c {γ : Type} (n : γ) (k : Int × Int → γ) (a0 : Int) (a1 : Int) (b0 : Int) (b1 : Int) (c : Bool) : γ := let t1 := B.cong_Norm a0 a1; let t2 := B.cong_alone t1.fst t1.snd; let t3 := B.cong_Norm b0 b1; let t4 := B.cong_alone t3.fst t3.snd; let t5 := IntKind.i64.wrap t1.snd; let t6 := IntKind.i64.wrap t3.snd; let t7 := word_Add t5 t6; let t8 := B.cong_Const t7; let t9 := word_Gcd.g 0 t1.fst; let t10 := word_Gcd 0 t1.fst; let t11 := word_Gcd.g t10 t3.fst; let t12 := word_Gcd t10 t3.fst; let t13 := B.cong_two t12; let t14 := bif !c then t13 else t12; let t15 := B.cong_rest t1.fst t1.snd t14; let t16 := B.cong_rest t3.fst t3.snd t14; let t17 := B.cong_plus t15 t16 t14; B.cong_Add.c0 n k a0 a1 b0 b1 c t1 t2 t3 t4 t5 t6 t7 t8 t9 t10 t11 t12 t13 t14 t15 t16 t17
def B.cong_Add.ok (a0 : Int) (a1 : Int) (b0 : Int) (b1 : Int) (c : Bool) : Bool := B.cong_Add.c false (fun _ => true) a0 a1 b0 b1 c
def B.cong_Add (a0 : Int) (a1 : Int) (b0 : Int) (b1 : Int) (c : Bool) : Int × Int := B.cong_Add.c (0, 0) id a0 a1 b0 b1 c
def B.cong_Add.F : FV := mkF (cP (cA (cP (cI .u64) (cP (cI .u64) cU))) (cP (cA (cP (cI .u64) (cP (cI .u64) cU))) (cP cB cU))) (fun | ((a0, (a1, ())), ((b0, (b1, ())), (c, ()))) => B.cong_Add.ok a0 a1 b0 b1 c) (fun | ((a0, (a1, ())), ((b0, (b1, ())), (c, ()))) => .agg #[.int .u64 (B.cong_Add a0 a1 b0 b1 c).1, .int .u64 (B.cong_Add a0 a1 b0 b1 c).2])
def L_B.cong_Add : TL := (119, B.cong_Add.F) :: L_B.cong_Neg
theorem B.cong_Add.p0 {γ : Type} (k : Int × Int → γ) (a0 : Int) (a1 : Int) (b0 : Int) (b1 : Int) (c : Bool) (t1 : Int × Int) (t2 : Bool) (t3 : Int × Int) (t4 : Bool) (t5 : Int) (t6 : Int) (t7 : Int) (t8 : Int × Int) (t9 : Bool) (t10 : Int) (t11 : Bool) (t12 : Int) (t13 : Int) (t14 : Int) (t15 : Int) (t16 : Int) (t17 : Int) : B.cong_Add.c0 false (fun _ => true) a0 a1 b0 b1 c t1 t2 t3 t4 t5 t6 t7 t8 t9 t10 t11 t12 t13 t14 t15 t16 t17 = true → B.cong_Add.c0 none (fun q => some (k q)) a0 a1 b0 b1 c t1 t2 t3 t4 t5 t6 t7 t8 t9 t10 t11 t12 t13 t14 t15 t16 t17 = some (k (B.cong_Add.c0 (0, 0) id a0 a1 b0 b1 c t1 t2 t3 t4 t5 t6 t7 t8 t9 t10 t11 t12 t13 t14 t15 t16 t17)) := by
  unfold B.cong_Add.c0; (repeat' (first | (apply pn k) | (exact pn_none _ _) | (exact pn_leaf k _)))
theorem B.cong_Add.p {γ : Type} (k : Int × Int → γ) (a0 : Int) (a1 : Int) (b0 : Int) (b1 : Int) (c : Bool) (h : B.cong_Add.ok a0 a1 b0 b1 c = true) : B.cong_Add.c none (fun q => some (k q)) a0 a1 b0 b1 c = some (k (B.cong_Add a0 a1 b0 b1 c)) :=
  let t1 := B.cong_Norm a0 a1; let t2 := B.cong_alone t1.fst t1.snd; let t3 := B.cong_Norm b0 b1; let t4 := B.cong_alone t3.fst t3.snd; let t5 := IntKind.i64.wrap t1.snd; let t6 := IntKind.i64.wrap t3.snd; let t7 := word_Add t5 t6; let t8 := B.cong_Const t7; let t9 := word_Gcd.g 0 t1.fst; let t10 := word_Gcd 0 t1.fst; let t11 := word_Gcd.g t10 t3.fst; let t12 := word_Gcd t10 t3.fst; let t13 := B.cong_two t12; let t14 := bif !c then t13 else t12; let t15 := B.cong_rest t1.fst t1.snd t14; let t16 := B.cong_rest t3.fst t3.snd t14; let t17 := B.cong_plus t15 t16 t14; B.cong_Add.p0 k a0 a1 b0 b1 c t1 t2 t3 t4 t5 t6 t7 t8 t9 t10 t11 t12 t13 t14 t15 t16 t17 h
theorem B.cong_Add.r (a0 : Int) (a1 : Int) (b0 : Int) (b1 : Int) (c : Bool) : runF P G (tab L_B.cong_Neg) { merge := true } 60 Tryz.f119 [.agg #[.int .u64 a0, .int .u64 a1], .agg #[.int .u64 b0, .int .u64 b1], .bool c] = B.cong_Add.c none (fun q => some (.agg #[.int .u64 (q).1, .int .u64 (q).2] : Value)) a0 a1 b0 b1 c := by kernel_rfl
theorem B.cong_Add.t : TabOK P G (tab L_B.cong_Add) :=
  TabOK_mk C B.cong_Neg.t Tryz.func119 (by kernel_rfl) true 60 (by
    rintro ⟨⟨a0, ⟨a1, ⟨⟩⟩⟩, ⟨⟨b0, ⟨b1, ⟨⟩⟩⟩, ⟨c, ⟨⟩⟩⟩⟩ h
    exact (B.cong_Add.r a0 a1 b0 b1 c).trans (B.cong_Add.p (fun q => (.agg #[.int .u64 (q).1, .int .u64 (q).2] : Value)) a0 a1 b0 b1 c h))
def B.cong_Sub.c0 {γ : Type} (n : γ) (k : Int × Int → γ) (a0 : Int) (a1 : Int) (b0 : Int) (b1 : Int) (c : Bool) (t1 : Int × Int) (t2 : Bool) (t3 : Int × Int) (t4 : Bool) (t5 : Int) (t6 : Int) (t7 : Int) (t8 : Int × Int) (t9 : Bool) (t10 : Int) (t11 : Bool) (t12 : Int) (t13 : Int) (t14 : Int) (t15 : Int) (t16 : Int) (t17 : Int) : γ := bif t2
  then bif t4
   then k (t8.fst, t8.snd)
   else bif t9
    then bif t11
     then k (t14, t17)
     else n
    else n
  else bif t9
   then bif t11
    then k (t14, t17)
    else n
   else n
def B.cong_Sub.c {γ : Type} (n : γ) (k : Int × Int → γ) (a0 : Int) (a1 : Int) (b0 : Int) (b1 : Int) (c : Bool) : γ := let t1 := B.cong_Norm a0 a1; let t2 := B.cong_alone t1.fst t1.snd; let t3 := B.cong_Norm b0 b1; let t4 := B.cong_alone t3.fst t3.snd; let t5 := IntKind.i64.wrap t1.snd; let t6 := IntKind.i64.wrap t3.snd; let t7 := word_Sub t5 t6; let t8 := B.cong_Const t7; let t9 := word_Gcd.g 0 t1.fst; let t10 := word_Gcd 0 t1.fst; let t11 := word_Gcd.g t10 t3.fst; let t12 := word_Gcd t10 t3.fst; let t13 := B.cong_two t12; let t14 := bif !c then t13 else t12; let t15 := B.cong_rest t1.fst t1.snd t14; let t16 := B.cong_rest t3.fst t3.snd t14; let t17 := B.cong_minus t15 t16 t14; B.cong_Sub.c0 n k a0 a1 b0 b1 c t1 t2 t3 t4 t5 t6 t7 t8 t9 t10 t11 t12 t13 t14 t15 t16 t17
def B.cong_Sub.ok (a0 : Int) (a1 : Int) (b0 : Int) (b1 : Int) (c : Bool) : Bool := B.cong_Sub.c false (fun _ => true) a0 a1 b0 b1 c
def B.cong_Sub (a0 : Int) (a1 : Int) (b0 : Int) (b1 : Int) (c : Bool) : Int × Int := B.cong_Sub.c (0, 0) id a0 a1 b0 b1 c
def B.cong_Sub.F : FV := mkF (cP (cA (cP (cI .u64) (cP (cI .u64) cU))) (cP (cA (cP (cI .u64) (cP (cI .u64) cU))) (cP cB cU))) (fun | ((a0, (a1, ())), ((b0, (b1, ())), (c, ()))) => B.cong_Sub.ok a0 a1 b0 b1 c) (fun | ((a0, (a1, ())), ((b0, (b1, ())), (c, ()))) => .agg #[.int .u64 (B.cong_Sub a0 a1 b0 b1 c).1, .int .u64 (B.cong_Sub a0 a1 b0 b1 c).2])
def L_B.cong_Sub : TL := (121, B.cong_Sub.F) :: L_B.cong_Add
theorem B.cong_Sub.p0 {γ : Type} (k : Int × Int → γ) (a0 : Int) (a1 : Int) (b0 : Int) (b1 : Int) (c : Bool) (t1 : Int × Int) (t2 : Bool) (t3 : Int × Int) (t4 : Bool) (t5 : Int) (t6 : Int) (t7 : Int) (t8 : Int × Int) (t9 : Bool) (t10 : Int) (t11 : Bool) (t12 : Int) (t13 : Int) (t14 : Int) (t15 : Int) (t16 : Int) (t17 : Int) : B.cong_Sub.c0 false (fun _ => true) a0 a1 b0 b1 c t1 t2 t3 t4 t5 t6 t7 t8 t9 t10 t11 t12 t13 t14 t15 t16 t17 = true → B.cong_Sub.c0 none (fun q => some (k q)) a0 a1 b0 b1 c t1 t2 t3 t4 t5 t6 t7 t8 t9 t10 t11 t12 t13 t14 t15 t16 t17 = some (k (B.cong_Sub.c0 (0, 0) id a0 a1 b0 b1 c t1 t2 t3 t4 t5 t6 t7 t8 t9 t10 t11 t12 t13 t14 t15 t16 t17)) := by
  unfold B.cong_Sub.c0; (repeat' (first | (apply pn k) | (exact pn_none _ _) | (exact pn_leaf k _)))
theorem B.cong_Sub.p {γ : Type} (k : Int × Int → γ) (a0 : Int) (a1 : Int) (b0 : Int) (b1 : Int) (c : Bool) (h : B.cong_Sub.ok a0 a1 b0 b1 c = true) : B.cong_Sub.c none (fun q => some (k q)) a0 a1 b0 b1 c = some (k (B.cong_Sub a0 a1 b0 b1 c)) :=
  let t1 := B.cong_Norm a0 a1; let t2 := B.cong_alone t1.fst t1.snd; let t3 := B.cong_Norm b0 b1; let t4 := B.cong_alone t3.fst t3.snd; let t5 := IntKind.i64.wrap t1.snd; let t6 := IntKind.i64.wrap t3.snd; let t7 := word_Sub t5 t6; let t8 := B.cong_Const t7; let t9 := word_Gcd.g 0 t1.fst; let t10 := word_Gcd 0 t1.fst; let t11 := word_Gcd.g t10 t3.fst; let t12 := word_Gcd t10 t3.fst; let t13 := B.cong_two t12; let t14 := bif !c then t13 else t12; let t15 := B.cong_rest t1.fst t1.snd t14; let t16 := B.cong_rest t3.fst t3.snd t14; let t17 := B.cong_minus t15 t16 t14; B.cong_Sub.p0 k a0 a1 b0 b1 c t1 t2 t3 t4 t5 t6 t7 t8 t9 t10 t11 t12 t13 t14 t15 t16 t17 h
theorem B.cong_Sub.r (a0 : Int) (a1 : Int) (b0 : Int) (b1 : Int) (c : Bool) : runF P G (tab L_B.cong_Add) { merge := true } 60 Tryz.f121 [.agg #[.int .u64 a0, .int .u64 a1], .agg #[.int .u64 b0, .int .u64 b1], .bool c] = B.cong_Sub.c none (fun q => some (.agg #[.int .u64 (q).1, .int .u64 (q).2] : Value)) a0 a1 b0 b1 c := by kernel_rfl
theorem B.cong_Sub.t : TabOK P G (tab L_B.cong_Sub) :=
  TabOK_mk C B.cong_Add.t Tryz.func121 (by kernel_rfl) true 60 (by
    rintro ⟨⟨a0, ⟨a1, ⟨⟩⟩⟩, ⟨⟨b0, ⟨b1, ⟨⟩⟩⟩, ⟨c, ⟨⟩⟩⟩⟩ h
    exact (B.cong_Sub.r a0 a1 b0 b1 c).trans (B.cong_Sub.p (fun q => (.agg #[.int .u64 (q).1, .int .u64 (q).2] : Value)) a0 a1 b0 b1 c h))
def B.cong_Meet0.c0 {γ : Type} (k : Int × Int × Bool → γ) (a1 : Int) (b0 : Int) (b1 : Int) (t1 : Int × Int) (t2 : Int × Int) (t3 : Int) (t4 : Bool) : γ := bif t4
  then k (t2.fst, t2.snd, true)
  else k (0, 0, false)
def B.cong_Meet0.c {γ : Type} (k : Int × Int × Bool → γ) (a1 : Int) (b0 : Int) (b1 : Int) : γ := let t1 := B.cong_Norm b0 b1; let t2 := B.cong_Norm 0 a1; let t3 := IntKind.i64.wrap t2.snd; let t4 := B.cong_Has t1.fst t1.snd t3; B.cong_Meet0.c0 k a1 b0 b1 t1 t2 t3 t4
def B.cong_Meet0 (a1 : Int) (b0 : Int) (b1 : Int) : Int × Int × Bool := B.cong_Meet0.c id a1 b0 b1
def B.cong_Meet0.F : FV := mkF (cP (cA (cP (cI .u64) (cP (cI .u64) cU))) (cP (cA (cP (cI .u64) (cP (cI .u64) cU))) cU)) (fun | ((a0, (a1, ())), ((b0, (b1, ())), ())) => decide (a0 = 0) && true) (fun | ((a0, (a1, ())), ((b0, (b1, ())), ())) => .tuple #[.agg #[.int .u64 (B.cong_Meet0 a1 b0 b1).1, .int .u64 (B.cong_Meet0 a1 b0 b1).2.1], .bool (B.cong_Meet0 a1 b0 b1).2.2])
def L_B.cong_Meet0 : TL := (77, B.cong_Meet0.F) :: L_B.cong_Sub
theorem B.cong_Meet0.p0 {γ : Type} (k : Int × Int × Bool → γ) (a1 : Int) (b0 : Int) (b1 : Int) (t1 : Int × Int) (t2 : Int × Int) (t3 : Int) (t4 : Bool) : B.cong_Meet0.c0 k a1 b0 b1 t1 t2 t3 t4 = k (B.cong_Meet0.c0 id a1 b0 b1 t1 t2 t3 t4) := by
  unfold B.cong_Meet0.c0; (repeat' (first | (apply pc k) | (exact rfl)))
theorem B.cong_Meet0.p {γ : Type} (k : Int × Int × Bool → γ) (a1 : Int) (b0 : Int) (b1 : Int) : B.cong_Meet0.c k a1 b0 b1 = k (B.cong_Meet0 a1 b0 b1) :=
  let t1 := B.cong_Norm b0 b1; let t2 := B.cong_Norm 0 a1; let t3 := IntKind.i64.wrap t2.snd; let t4 := B.cong_Has t1.fst t1.snd t3; B.cong_Meet0.p0 k a1 b0 b1 t1 t2 t3 t4
theorem B.cong_Meet0.r (a1 : Int) (b0 : Int) (b1 : Int) : runF P G (tab L_B.cong_Sub) { merge := true } 60 Tryz.f77 [.agg #[.int .u64 0, .int .u64 a1], .agg #[.int .u64 b0, .int .u64 b1]] = B.cong_Meet0.c (fun q => some (.tuple #[.agg #[.int .u64 (q).1, .int .u64 (q).2.1], .bool (q).2.2] : Value)) a1 b0 b1 := by kernel_rfl
theorem B.cong_Meet0.t : TabOK P G (tab L_B.cong_Meet0) :=
  TabOK_mk C B.cong_Sub.t Tryz.func77 (by kernel_rfl) true 60 (by
    rintro ⟨⟨a0, ⟨a1, ⟨⟩⟩⟩, ⟨⟨b0, ⟨b1, ⟨⟩⟩⟩, ⟨⟩⟩⟩ h
    simp only [Bool.and_eq_true, decide_eq_true_eq] at h
    obtain ⟨rfl, h⟩ := h
    exact (B.cong_Meet0.r a1 b0 b1).trans (B.cong_Meet0.p (fun q => some (.tuple #[.agg #[.int .u64 (q).1, .int .u64 (q).2.1], .bool (q).2.2] : Value)) a1 b0 b1))
def B.cong_Meet.c0 {γ : Type} (n : γ) (k : Int × Int × Bool → γ) (a0 : Int) (a1 : Int) (b0 : Int) (b1 : Int) (t1 : Int × Int) (t2 : Bool) (t3 : Int × Int) (t4 : Int) (t5 : Bool) (t6 : Bool) (t7 : Int × Int × Bool) (t8 : Bool) (t9 : Int) (t10 : Bool) (t11 : Int) (t12 : Int) (t13 : Int) (t14 : Bool) (t15 : Int) (t16 : Int) (t17 : Int) (t18 : Int) (t19 : Int) (t20 : Int) (t21 : Int) (t22 : Bool) (t23 : Int × Int) (t24 : Int) (t25 : Int × Int) (t26 : Int × Int) (t27 : Int) (t28 : Int) (t29 : Int × Int) (t30 : Int) (t31 : Int × Int) (t32 : Int) (t33 : Int) (t34 : Int) (t35 : Int × Int) : γ := bif t2
  then bif t5
   then k (t1.fst, t1.snd, true)
   else k (0, 0, false)
  else bif t6
   then bif decide (t3.fst = 0) && true
    then k (t7.fst, t7.snd.fst, t7.snd.snd)
    else n
   else bif t8
    then bif t10
     then bif !decide (t11 = 0)
      then bif !decide (t11 = 0)
       then bif t1.snd.tmod t11 != t3.snd.tmod t11
        then k (0, 0, false)
        else bif !decide (t11 = 0)
         then bif !decide (t11 = 0)
          then bif !decide (t12 = 0)
           then bif !decide (t11 = 0)
            then bif t14
             then bif t22
              then bif t23.fst == 0
               then k (t23.snd, t26.fst, true)
               else bif t27 == 0
                then bif decide (t26.fst ≤ 9223372036854775807)
                 then k (t29.fst, t29.snd, true)
                 else bif t32 == 0
                  then bif decide (t31.fst ≤ 9223372036854775808)
                   then k (t35.fst, t35.snd, true)
                   else k (0, 0, false)
                  else k (0, 0, false)
                else bif t32 == 0
                 then bif decide (t31.fst ≤ 9223372036854775808)
                  then k (t35.fst, t35.snd, true)
                  else k (0, 0, false)
                 else k (0, 0, false)
              else n
             else n
            else n
           else n
          else n
         else n
       else n
      else n
     else n
    else n
def B.cong_Meet.c {γ : Type} (n : γ) (k : Int × Int × Bool → γ) (a0 : Int) (a1 : Int) (b0 : Int) (b1 : Int) : γ := let t1 := B.cong_Norm a0 a1; let t2 := B.cong_alone t1.fst t1.snd; let t3 := B.cong_Norm b0 b1; let t4 := IntKind.i64.wrap t1.snd; let t5 := B.cong_Has t3.fst t3.snd t4; let t6 := B.cong_alone t3.fst t3.snd; let t7 := B.cong_Meet0 t3.snd t1.fst t1.snd; let t8 := word_Gcd.g 0 t1.fst; let t9 := word_Gcd 0 t1.fst; let t10 := word_Gcd.g t9 t3.fst; let t11 := word_Gcd t9 t3.fst; let t12 := IntKind.u64.wrap (t3.fst.tdiv t11); let t13 := IntKind.u64.wrap (t1.fst.tdiv t11); let t14 := B.cong_inverse.g t13 t12; let t15 := if t3.snd > t1.snd then t3.snd else t1.snd; let t16 := if t3.snd < t1.snd then t3.snd else t1.snd; let t17 := IntKind.u64.wrap (t15 - t16); let t18 := IntKind.u64.wrap (t17.tdiv t11); let t19 := B.cong_minus 0 (t18.tmod t12) t12; let t20 := bif decide (t3.snd < t1.snd) then t19 else t18.tmod t12; let t21 := B.cong_inverse t13 t12; let t22 := B.cong_times.ok t20 t21 t12; let t23 := bits_Mul64 t12 t1.fst; let t24 := B.cong_times t20 t21 t12; let t25 := bits_Mul64 t24 t1.fst; let t26 := bits_Add64 t25.snd t1.snd 0; let t27 := IntKind.u64.wrap (t25.fst + t26.snd); let t28 := IntKind.i64.wrap t26.fst; let t29 := B.cong_Const t28; let t30 := IntKind.u64.wrap (t23.fst - t27); let t31 := bits_Sub64 t23.snd t26.fst 0; let t32 := IntKind.u64.wrap (t30 - t31.snd); let t33 := IntKind.u64.wrap (0 - t31.fst); let t34 := IntKind.i64.wrap t33; let t35 := B.cong_Const t34; B.cong_Meet.c0 n k a0 a1 b0 b1 t1 t2 t3 t4 t5 t6 t7 t8 t9 t10 t11 t12 t13 t14 t15 t16 t17 t18 t19 t20 t21 t22 t23 t24 t25 t26 t27 t28 t29 t30 t31 t32 t33 t34 t35
def B.cong_Meet.ok (a0 : Int) (a1 : Int) (b0 : Int) (b1 : Int) : Bool := B.cong_Meet.c false (fun _ => true) a0 a1 b0 b1
def B.cong_Meet (a0 : Int) (a1 : Int) (b0 : Int) (b1 : Int) : Int × Int × Bool := B.cong_Meet.c (0, 0, false) id a0 a1 b0 b1
def B.cong_Meet.F : FV := mkF (cP (cA (cP (cI .u64) (cP (cI .u64) cU))) (cP (cA (cP (cI .u64) (cP (cI .u64) cU))) cU)) (fun | ((a0, (a1, ())), ((b0, (b1, ())), ())) => B.cong_Meet.ok a0 a1 b0 b1) (fun | ((a0, (a1, ())), ((b0, (b1, ())), ())) => .tuple #[.agg #[.int .u64 (B.cong_Meet a0 a1 b0 b1).1, .int .u64 (B.cong_Meet a0 a1 b0 b1).2.1], .bool (B.cong_Meet a0 a1 b0 b1).2.2])
def L_B.cong_Meet : TL := (77, B.cong_Meet.F) :: L_B.cong_Meet0
theorem B.cong_Meet.p0 {γ : Type} (k : Int × Int × Bool → γ) (a0 : Int) (a1 : Int) (b0 : Int) (b1 : Int) (t1 : Int × Int) (t2 : Bool) (t3 : Int × Int) (t4 : Int) (t5 : Bool) (t6 : Bool) (t7 : Int × Int × Bool) (t8 : Bool) (t9 : Int) (t10 : Bool) (t11 : Int) (t12 : Int) (t13 : Int) (t14 : Bool) (t15 : Int) (t16 : Int) (t17 : Int) (t18 : Int) (t19 : Int) (t20 : Int) (t21 : Int) (t22 : Bool) (t23 : Int × Int) (t24 : Int) (t25 : Int × Int) (t26 : Int × Int) (t27 : Int) (t28 : Int) (t29 : Int × Int) (t30 : Int) (t31 : Int × Int) (t32 : Int) (t33 : Int) (t34 : Int) (t35 : Int × Int) : B.cong_Meet.c0 false (fun _ => true) a0 a1 b0 b1 t1 t2 t3 t4 t5 t6 t7 t8 t9 t10 t11 t12 t13 t14 t15 t16 t17 t18 t19 t20 t21 t22 t23 t24 t25 t26 t27 t28 t29 t30 t31 t32 t33 t34 t35 = true → B.cong_Meet.c0 none (fun q => some (k q)) a0 a1 b0 b1 t1 t2 t3 t4 t5 t6 t7 t8 t9 t10 t11 t12 t13 t14 t15 t16 t17 t18 t19 t20 t21 t22 t23 t24 t25 t26 t27 t28 t29 t30 t31 t32 t33 t34 t35 = some (k (B.cong_Meet.c0 (0, 0, false) id a0 a1 b0 b1 t1 t2 t3 t4 t5 t6 t7 t8 t9 t10 t11 t12 t13 t14 t15 t16 t17 t18 t19 t20 t21 t22 t23 t24 t25 t26 t27 t28 t29 t30 t31 t32 t33 t34 t35)) := by
  unfold B.cong_Meet.c0; (repeat' (first | (apply pn k) | (exact pn_none _ _) | (exact pn_leaf k _)))
theorem B.cong_Meet.p {γ : Type} (k : Int × Int × Bool → γ) (a0 : Int) (a1 : Int) (b0 : Int) (b1 : Int) (h : B.cong_Meet.ok a0 a1 b0 b1 = true) : B.cong_Meet.c none (fun q => some (k q)) a0 a1 b0 b1 = some (k (B.cong_Meet a0 a1 b0 b1)) :=
  let t1 := B.cong_Norm a0 a1; let t2 := B.cong_alone t1.fst t1.snd; let t3 := B.cong_Norm b0 b1; let t4 := IntKind.i64.wrap t1.snd; let t5 := B.cong_Has t3.fst t3.snd t4; let t6 := B.cong_alone t3.fst t3.snd; let t7 := B.cong_Meet0 t3.snd t1.fst t1.snd; let t8 := word_Gcd.g 0 t1.fst; let t9 := word_Gcd 0 t1.fst; let t10 := word_Gcd.g t9 t3.fst; let t11 := word_Gcd t9 t3.fst; let t12 := IntKind.u64.wrap (t3.fst.tdiv t11); let t13 := IntKind.u64.wrap (t1.fst.tdiv t11); let t14 := B.cong_inverse.g t13 t12; let t15 := if t3.snd > t1.snd then t3.snd else t1.snd; let t16 := if t3.snd < t1.snd then t3.snd else t1.snd; let t17 := IntKind.u64.wrap (t15 - t16); let t18 := IntKind.u64.wrap (t17.tdiv t11); let t19 := B.cong_minus 0 (t18.tmod t12) t12; let t20 := bif decide (t3.snd < t1.snd) then t19 else t18.tmod t12; let t21 := B.cong_inverse t13 t12; let t22 := B.cong_times.ok t20 t21 t12; let t23 := bits_Mul64 t12 t1.fst; let t24 := B.cong_times t20 t21 t12; let t25 := bits_Mul64 t24 t1.fst; let t26 := bits_Add64 t25.snd t1.snd 0; let t27 := IntKind.u64.wrap (t25.fst + t26.snd); let t28 := IntKind.i64.wrap t26.fst; let t29 := B.cong_Const t28; let t30 := IntKind.u64.wrap (t23.fst - t27); let t31 := bits_Sub64 t23.snd t26.fst 0; let t32 := IntKind.u64.wrap (t30 - t31.snd); let t33 := IntKind.u64.wrap (0 - t31.fst); let t34 := IntKind.i64.wrap t33; let t35 := B.cong_Const t34; B.cong_Meet.p0 k a0 a1 b0 b1 t1 t2 t3 t4 t5 t6 t7 t8 t9 t10 t11 t12 t13 t14 t15 t16 t17 t18 t19 t20 t21 t22 t23 t24 t25 t26 t27 t28 t29 t30 t31 t32 t33 t34 t35 h
theorem B.cong_Meet.r (a0 : Int) (a1 : Int) (b0 : Int) (b1 : Int) : runF P G (tab L_B.cong_Meet0) { merge := true } 60 Tryz.f77 [.agg #[.int .u64 a0, .int .u64 a1], .agg #[.int .u64 b0, .int .u64 b1]] = B.cong_Meet.c none (fun q => some (.tuple #[.agg #[.int .u64 (q).1, .int .u64 (q).2.1], .bool (q).2.2] : Value)) a0 a1 b0 b1 := by kernel_rfl
theorem B.cong_Meet.t : TabOK P G (tab L_B.cong_Meet) :=
  TabOK_mk C B.cong_Meet0.t Tryz.func77 (by kernel_rfl) true 60 (by
    rintro ⟨⟨a0, ⟨a1, ⟨⟩⟩⟩, ⟨⟨b0, ⟨b1, ⟨⟩⟩⟩, ⟨⟩⟩⟩ h
    exact (B.cong_Meet.r a0 a1 b0 b1).trans (B.cong_Meet.p (fun q => (.tuple #[.agg #[.int .u64 (q).1, .int .u64 (q).2.1], .bool (q).2.2] : Value)) a0 a1 b0 b1 h))
def B.ref_of.c {γ : Type} (k : Int × Int → γ) (a : Int) : γ := k (0, a)
def B.ref_of (a : Int) : Int × Int := B.ref_of.c id a
def B.ref_of.F : FV := mkF (cP (cI .u64) cU) (fun _ => true) (fun | (a, ()) => .agg #[.int .u64 (B.ref_of a).1, .int .u64 (B.ref_of a).2])
def L_B.ref_of : TL := (134, B.ref_of.F) :: L_B.cong_Meet
theorem B.ref_of.p {γ : Type} (k : Int × Int → γ) (a : Int) : B.ref_of.c k a = k (B.ref_of a) := by
  unfold B.ref_of B.ref_of.c; (repeat' (first | (apply pc k) | (exact rfl)))
theorem B.ref_of.r (a : Int) : runF P G (tab L_B.cong_Meet) { merge := true } 60 Tryz.f134 [.int .u64 a] = B.ref_of.c (fun q => some (.agg #[.int .u64 (q).1, .int .u64 (q).2] : Value)) a := by kernel_rfl
theorem B.ref_of.t : TabOK P G (tab L_B.ref_of) :=
  TabOK_mk C B.cong_Meet.t Tryz.func134 (by kernel_rfl) true 60 (by
    rintro ⟨a, ⟨⟩⟩ h
    exact (B.ref_of.r a).trans (B.ref_of.p (fun q => some (.agg #[.int .u64 (q).1, .int .u64 (q).2] : Value)) a))
def B.ref_less.c {γ : Type} (k : Bool → γ) (a0 : Int) (a1 : Int) (b0 : Int) (b1 : Int) : γ := bif decide (a0 < b0)
  then k (true)
  else bif a0 == b0
   then k (decide (a1 < b1))
   else k (false)
def B.ref_less (a0 : Int) (a1 : Int) (b0 : Int) (b1 : Int) : Bool := B.ref_less.c id a0 a1 b0 b1
def B.ref_less.F : FV := mkF (cP (cA (cP (cI .u64) (cP (cI .u64) cU))) (cP (cA (cP (cI .u64) (cP (cI .u64) cU))) cU)) (fun _ => true) (fun | ((a0, (a1, ())), ((b0, (b1, ())), ())) => .bool (B.ref_less a0 a1 b0 b1))
def L_B.ref_less : TL := (154, B.ref_less.F) :: L_B.ref_of
theorem B.ref_less.p {γ : Type} (k : Bool → γ) (a0 : Int) (a1 : Int) (b0 : Int) (b1 : Int) : B.ref_less.c k a0 a1 b0 b1 = k (B.ref_less a0 a1 b0 b1) := by
  unfold B.ref_less B.ref_less.c; (repeat' (first | (apply pc k) | (exact rfl)))
theorem B.ref_less.r (a0 : Int) (a1 : Int) (b0 : Int) (b1 : Int) : runF P G (tab L_B.ref_of) { merge := true } 60 Tryz.f154 [.agg #[.int .u64 a0, .int .u64 a1], .agg #[.int .u64 b0, .int .u64 b1]] = B.ref_less.c (fun q => some (.bool (q) : Value)) a0 a1 b0 b1 := by kernel_rfl
theorem B.ref_less.t : TabOK P G (tab L_B.ref_less) :=
  TabOK_mk C B.ref_of.t Tryz.func154 (by kernel_rfl) true 60 (by
    rintro ⟨⟨a0, ⟨a1, ⟨⟩⟩⟩, ⟨⟨b0, ⟨b1, ⟨⟩⟩⟩, ⟨⟩⟩⟩ h
    exact (B.ref_less.r a0 a1 b0 b1).trans (B.ref_less.p (fun q => some (.bool (q) : Value)) a0 a1 b0 b1))
def B.ref_minus.c0 {γ : Type} (k : Int × Int → γ) (a0 : Int) (a1 : Int) (b0 : Int) (b1 : Int) (t1 : Int) (t2 : Int) (t3 : Int) : γ := bif decide (a1 < b1)
  then k (t2, t3)
  else k (t1, t3)
def B.ref_minus.c {γ : Type} (k : Int × Int → γ) (a0 : Int) (a1 : Int) (b0 : Int) (b1 : Int) : γ := let t1 := IntKind.u64.wrap (a0 - b0); let t2 := IntKind.u64.wrap (t1 - 1); let t3 := IntKind.u64.wrap (a1 - b1); B.ref_minus.c0 k a0 a1 b0 b1 t1 t2 t3
def B.ref_minus (a0 : Int) (a1 : Int) (b0 : Int) (b1 : Int) : Int × Int := B.ref_minus.c id a0 a1 b0 b1
def B.ref_minus.F : FV := mkF (cP (cA (cP (cI .u64) (cP (cI .u64) cU))) (cP (cA (cP (cI .u64) (cP (cI .u64) cU))) cU)) (fun _ => true) (fun | ((a0, (a1, ())), ((b0, (b1, ())), ())) => .agg #[.int .u64 (B.ref_minus a0 a1 b0 b1).1, .int .u64 (B.ref_minus a0 a1 b0 b1).2])
def L_B.ref_minus : TL := (155, B.ref_minus.F) :: L_B.ref_less
theorem B.ref_minus.p0 {γ : Type} (k : Int × Int → γ) (a0 : Int) (a1 : Int) (b0 : Int) (b1 : Int) (t1 : Int) (t2 : Int) (t3 : Int) : B.ref_minus.c0 k a0 a1 b0 b1 t1 t2 t3 = k (B.ref_minus.c0 id a0 a1 b0 b1 t1 t2 t3) := by
  unfold B.ref_minus.c0; (repeat' (first | (apply pc k) | (exact rfl)))
theorem B.ref_minus.p {γ : Type} (k : Int × Int → γ) (a0 : Int) (a1 : Int) (b0 : Int) (b1 : Int) : B.ref_minus.c k a0 a1 b0 b1 = k (B.ref_minus a0 a1 b0 b1) :=
  let t1 := IntKind.u64.wrap (a0 - b0); let t2 := IntKind.u64.wrap (t1 - 1); let t3 := IntKind.u64.wrap (a1 - b1); B.ref_minus.p0 k a0 a1 b0 b1 t1 t2 t3
theorem B.ref_minus.r (a0 : Int) (a1 : Int) (b0 : Int) (b1 : Int) : runF P G (tab L_B.ref_less) { merge := true } 60 Tryz.f155 [.agg #[.int .u64 a0, .int .u64 a1], .agg #[.int .u64 b0, .int .u64 b1]] = B.ref_minus.c (fun q => some (.agg #[.int .u64 (q).1, .int .u64 (q).2] : Value)) a0 a1 b0 b1 := by kernel_rfl
theorem B.ref_minus.t : TabOK P G (tab L_B.ref_minus) :=
  TabOK_mk C B.ref_less.t Tryz.func155 (by kernel_rfl) true 60 (by
    rintro ⟨⟨a0, ⟨a1, ⟨⟩⟩⟩, ⟨⟨b0, ⟨b1, ⟨⟩⟩⟩, ⟨⟩⟩⟩ h
    exact (B.ref_minus.r a0 a1 b0 b1).trans (B.ref_minus.p (fun q => some (.agg #[.int .u64 (q).1, .int .u64 (q).2] : Value)) a0 a1 b0 b1))
def B.ref_twice.c0 {γ : Type} (k : Int × Int × Bool → γ) (a0 : Int) (a1 : Int) (b : Int) (t1 : Int) (t2 : Int) : γ := k (orI IntKind.u64 t1 (a1.fdiv (2 ^ min (Int.toNat 63) IntKind.u64.bits)), orI IntKind.u64 t2 b, a0.fdiv (2 ^ min (Int.toNat 63) IntKind.u64.bits) == 1)
def B.ref_twice.c {γ : Type} (k : Int × Int × Bool → γ) (a0 : Int) (a1 : Int) (b : Int) : γ := let t1 := IntKind.u64.wrap (a0 * 2 ^ min (Int.toNat 1) IntKind.u64.bits); let t2 := IntKind.u64.wrap (a1 * 2 ^ min (Int.toNat 1) IntKind.u64.bits); B.ref_twice.c0 k a0 a1 b t1 t2
def B.ref_twice (a0 : Int) (a1 : Int) (b : Int) : Int × Int × Bool := B.ref_twice.c id a0 a1 b
def B.ref_twice.F : FV := mkF (cP (cA (cP (cI .u64) (cP (cI .u64) cU))) (cP (cI .u64) cU)) (fun _ => true) (fun | ((a0, (a1, ())), (b, ())) => .tuple #[.agg #[.int .u64 (B.ref_twice a0 a1 b).1, .int .u64 (B.ref_twice a0 a1 b).2.1], .bool (B.ref_twice a0 a1 b).2.2])
def L_B.ref_twice : TL := (229, B.ref_twice.F) :: L_B.ref_minus
theorem B.ref_twice.p0 {γ : Type} (k : Int × Int × Bool → γ) (a0 : Int) (a1 : Int) (b : Int) (t1 : Int) (t2 : Int) : B.ref_twice.c0 k a0 a1 b t1 t2 = k (B.ref_twice.c0 id a0 a1 b t1 t2) := by
  unfold B.ref_twice.c0; (repeat' (first | (apply pc k) | (exact rfl)))
theorem B.ref_twice.p {γ : Type} (k : Int × Int × Bool → γ) (a0 : Int) (a1 : Int) (b : Int) : B.ref_twice.c k a0 a1 b = k (B.ref_twice a0 a1 b) :=
  let t1 := IntKind.u64.wrap (a0 * 2 ^ min (Int.toNat 1) IntKind.u64.bits); let t2 := IntKind.u64.wrap (a1 * 2 ^ min (Int.toNat 1) IntKind.u64.bits); B.ref_twice.p0 k a0 a1 b t1 t2
theorem B.ref_twice.r (a0 : Int) (a1 : Int) (b : Int) : runF P G (tab L_B.ref_minus) { merge := true } 60 Tryz.f229 [.agg #[.int .u64 a0, .int .u64 a1], .int .u64 b] = B.ref_twice.c (fun q => some (.tuple #[.agg #[.int .u64 (q).1, .int .u64 (q).2.1], .bool (q).2.2] : Value)) a0 a1 b := by kernel_rfl
theorem B.ref_twice.t : TabOK P G (tab L_B.ref_twice) :=
  TabOK_mk C B.ref_minus.t Tryz.func229 (by kernel_rfl) true 60 (by
    rintro ⟨⟨a0, ⟨a1, ⟨⟩⟩⟩, ⟨b, ⟨⟩⟩⟩ h
    exact (B.ref_twice.r a0 a1 b).trans (B.ref_twice.p (fun q => some (.tuple #[.agg #[.int .u64 (q).1, .int .u64 (q).2.1], .bool (q).2.2] : Value)) a0 a1 b))
def B.ref_bitOf.c0 {γ : Type} (n : γ) (k : Int → γ) (a0 : Int) (a1 : Int) (b : Int) (t1 : Int) : γ := bif decide (b < 64)
  then bif !decide (b < 0)
   then k (andI IntKind.u64 (a1.fdiv (2 ^ min b.toNat IntKind.u64.bits)) 1)
   else n
  else bif !decide (t1 < 0)
   then k (andI IntKind.u64 (a0.fdiv (2 ^ min (IntKind.i64.wrap (b - 64)).toNat IntKind.u64.bits)) 1)
   else n
def B.ref_bitOf.c {γ : Type} (n : γ) (k : Int → γ) (a0 : Int) (a1 : Int) (b : Int) : γ := let t1 := IntKind.i64.wrap (b - 64); B.ref_bitOf.c0 n k a0 a1 b t1
def B.ref_bitOf.ok (a0 : Int) (a1 : Int) (b : Int) : Bool := B.ref_bitOf.c false (fun _ => true) a0 a1 b
def B.ref_bitOf (a0 : Int) (a1 : Int) (b : Int) : Int := B.ref_bitOf.c (0) id a0 a1 b
def B.ref_bitOf.F : FV := mkF (cP (cA (cP (cI .u64) (cP (cI .u64) cU))) (cP (cI .i64) cU)) (fun | ((a0, (a1, ())), (b, ())) => B.ref_bitOf.ok a0 a1 b) (fun | ((a0, (a1, ())), (b, ())) => .int .u64 (B.ref_bitOf a0 a1 b))
def L_B.ref_bitOf : TL := (256, B.ref_bitOf.F) :: L_B.ref_twice
theorem B.ref_bitOf.p0 {γ : Type} (k : Int → γ) (a0 : Int) (a1 : Int) (b : Int) (t1 : Int) : B.ref_bitOf.c0 false (fun _ => true) a0 a1 b t1 = true → B.ref_bitOf.c0 none (fun q => some (k q)) a0 a1 b t1 = some (k (B.ref_bitOf.c0 (0) id a0 a1 b t1)) := by
  unfold B.ref_bitOf.c0; (repeat' (first | (apply pn k) | (exact pn_none _ _) | (exact pn_leaf k _)))
theorem B.ref_bitOf.p {γ : Type} (k : Int → γ) (a0 : Int) (a1 : Int) (b : Int) (h : B.ref_bitOf.ok a0 a1 b = true) : B.ref_bitOf.c none (fun q => some (k q)) a0 a1 b = some (k (B.ref_bitOf a0 a1 b)) :=
  let t1 := IntKind.i64.wrap (b - 64); B.ref_bitOf.p0 k a0 a1 b t1 h
theorem B.ref_bitOf.r (a0 : Int) (a1 : Int) (b : Int) : runF P G (tab L_B.ref_twice) { merge := true } 60 Tryz.f256 [.agg #[.int .u64 a0, .int .u64 a1], .int .i64 b] = B.ref_bitOf.c none (fun q => some (.int .u64 (q) : Value)) a0 a1 b := by kernel_rfl
theorem B.ref_bitOf.t : TabOK P G (tab L_B.ref_bitOf) :=
  TabOK_mk C B.ref_twice.t Tryz.func256 (by kernel_rfl) true 60 (by
    rintro ⟨⟨a0, ⟨a1, ⟨⟩⟩⟩, ⟨b, ⟨⟩⟩⟩ h
    exact (B.ref_bitOf.r a0 a1 b).trans (B.ref_bitOf.p (fun q => (.int .u64 (q) : Value)) a0 a1 b h))
end
end Go.Proofs.YtonpbbhlmapbdaaGreatDoor.V
