/- What the functions of this seat compute, told by evaluation of their code. Conditions: none. -/
import Derived.Test.YtoggbmfjkcbilaaDoorE3
set_option linter.unusedVariables false
set_option linter.unusedSimpArgs false
namespace Go.Proofs.YtoggbmfjkcbilaaDoor.V
open Go Go.Wk
noncomputable section

def ref_of.c {γ : Type} (k : Int × Int → γ) (a : Int) : γ := k (0, a)
def ref_of (a : Int) : Int × Int := ref_of.c id a
def ref_of.F : FV := mkF (cP (cI .u64) cU) (fun _ => true) (fun | (a, ()) => .agg #[.int .u64 (ref_of a).1, .int .u64 (ref_of a).2])
def L_ref_of : TL := (53, ref_of.F) :: L_cong_Meet
theorem ref_of.p {γ : Type} (k : Int × Int → γ) (a : Int) : ref_of.c k a = k (ref_of a) := by
  unfold ref_of ref_of.c; (repeat' (first | (apply pc k) | (exact rfl)))
theorem ref_of.r (a : Int) : runF P GS (tab L_cong_Meet) { merge := true } 60 Tryd.f53 [.int .u64 a] = ref_of.c (fun q => some (.agg #[.int .u64 (q).1, .int .u64 (q).2] : Value)) a := by kernel_rfl
theorem ref_of.t : TabOK P GS (tab L_ref_of) :=
  TabOK_mk CS cong_Meet.t Tryd.func53 (by kernel_rfl) true 60 (by
    rintro ⟨a, ⟨⟩⟩ h
    exact (ref_of.r a).trans (ref_of.p (fun q => some (.agg #[.int .u64 (q).1, .int .u64 (q).2] : Value)) a))

def ref_less.c {γ : Type} (k : Bool → γ) (a0 : Int) (a1 : Int) (b0 : Int) (b1 : Int) : γ := bif decide (a0 < b0)
  then k (true)
  else bif a0 == b0
   then k (decide (a1 < b1))
   else k (false)
def ref_less (a0 : Int) (a1 : Int) (b0 : Int) (b1 : Int) : Bool := ref_less.c id a0 a1 b0 b1
def ref_less.F : FV := mkF (cP (cA (cP (cI .u64) (cP (cI .u64) cU))) (cP (cA (cP (cI .u64) (cP (cI .u64) cU))) cU)) (fun _ => true) (fun | ((a0, (a1, ())), ((b0, (b1, ())), ())) => .bool (ref_less a0 a1 b0 b1))
def L_ref_less : TL := (60, ref_less.F) :: L_ref_of
theorem ref_less.p {γ : Type} (k : Bool → γ) (a0 : Int) (a1 : Int) (b0 : Int) (b1 : Int) : ref_less.c k a0 a1 b0 b1 = k (ref_less a0 a1 b0 b1) := by
  unfold ref_less ref_less.c; (repeat' (first | (apply pc k) | (exact rfl)))
theorem ref_less.r (a0 : Int) (a1 : Int) (b0 : Int) (b1 : Int) : runF P GS (tab L_ref_of) { merge := true } 60 Tryd.f60 [.agg #[.int .u64 a0, .int .u64 a1], .agg #[.int .u64 b0, .int .u64 b1]] = ref_less.c (fun q => some (.bool (q) : Value)) a0 a1 b0 b1 := by kernel_rfl
theorem ref_less.t : TabOK P GS (tab L_ref_less) :=
  TabOK_mk CS ref_of.t Tryd.func60 (by kernel_rfl) true 60 (by
    rintro ⟨⟨a0, ⟨a1, ⟨⟩⟩⟩, ⟨⟨b0, ⟨b1, ⟨⟩⟩⟩, ⟨⟩⟩⟩ h
    exact (ref_less.r a0 a1 b0 b1).trans (ref_less.p (fun q => some (.bool (q) : Value)) a0 a1 b0 b1))

def ref_minus.c0 {γ : Type} (k : Int × Int → γ) (a0 : Int) (a1 : Int) (b0 : Int) (b1 : Int) (t1 : Int) (t2 : Int) (t3 : Int) : γ := bif decide (a1 < b1)
  then k (t2, t3)
  else k (t1, t3)
def ref_minus.c {γ : Type} (k : Int × Int → γ) (a0 : Int) (a1 : Int) (b0 : Int) (b1 : Int) : γ := let t1 := IntKind.u64.wrap (a0 - b0); let t2 := IntKind.u64.wrap (t1 - 1); let t3 := IntKind.u64.wrap (a1 - b1); ref_minus.c0 k a0 a1 b0 b1 t1 t2 t3
def ref_minus (a0 : Int) (a1 : Int) (b0 : Int) (b1 : Int) : Int × Int := ref_minus.c id a0 a1 b0 b1
def ref_minus.F : FV := mkF (cP (cA (cP (cI .u64) (cP (cI .u64) cU))) (cP (cA (cP (cI .u64) (cP (cI .u64) cU))) cU)) (fun _ => true) (fun | ((a0, (a1, ())), ((b0, (b1, ())), ())) => .agg #[.int .u64 (ref_minus a0 a1 b0 b1).1, .int .u64 (ref_minus a0 a1 b0 b1).2])
def L_ref_minus : TL := (61, ref_minus.F) :: L_ref_less
theorem ref_minus.p0 {γ : Type} (k : Int × Int → γ) (a0 : Int) (a1 : Int) (b0 : Int) (b1 : Int) (t1 : Int) (t2 : Int) (t3 : Int) : ref_minus.c0 k a0 a1 b0 b1 t1 t2 t3 = k (ref_minus.c0 id a0 a1 b0 b1 t1 t2 t3) := by
  unfold ref_minus.c0; (repeat' (first | (apply pc k) | (exact rfl)))
theorem ref_minus.p {γ : Type} (k : Int × Int → γ) (a0 : Int) (a1 : Int) (b0 : Int) (b1 : Int) : ref_minus.c k a0 a1 b0 b1 = k (ref_minus a0 a1 b0 b1) :=
  let t1 := IntKind.u64.wrap (a0 - b0); let t2 := IntKind.u64.wrap (t1 - 1); let t3 := IntKind.u64.wrap (a1 - b1); ref_minus.p0 k a0 a1 b0 b1 t1 t2 t3
theorem ref_minus.r (a0 : Int) (a1 : Int) (b0 : Int) (b1 : Int) : runF P GS (tab L_ref_less) { merge := true } 60 Tryd.f61 [.agg #[.int .u64 a0, .int .u64 a1], .agg #[.int .u64 b0, .int .u64 b1]] = ref_minus.c (fun q => some (.agg #[.int .u64 (q).1, .int .u64 (q).2] : Value)) a0 a1 b0 b1 := by kernel_rfl
theorem ref_minus.t : TabOK P GS (tab L_ref_minus) :=
  TabOK_mk CS ref_less.t Tryd.func61 (by kernel_rfl) true 60 (by
    rintro ⟨⟨a0, ⟨a1, ⟨⟩⟩⟩, ⟨⟨b0, ⟨b1, ⟨⟩⟩⟩, ⟨⟩⟩⟩ h
    exact (ref_minus.r a0 a1 b0 b1).trans (ref_minus.p (fun q => some (.agg #[.int .u64 (q).1, .int .u64 (q).2] : Value)) a0 a1 b0 b1))

def ref_twice.c0 {γ : Type} (k : Int × Int × Bool → γ) (a0 : Int) (a1 : Int) (b : Int) (t1 : Int) (t2 : Int) : γ := k (orI IntKind.u64 t1 (a1.fdiv (2 ^ min (Int.toNat 63) IntKind.u64.bits)), orI IntKind.u64 t2 b, a0.fdiv (2 ^ min (Int.toNat 63) IntKind.u64.bits) == 1)
def ref_twice.c {γ : Type} (k : Int × Int × Bool → γ) (a0 : Int) (a1 : Int) (b : Int) : γ := let t1 := IntKind.u64.wrap (a0 * 2 ^ min (Int.toNat 1) IntKind.u64.bits); let t2 := IntKind.u64.wrap (a1 * 2 ^ min (Int.toNat 1) IntKind.u64.bits); ref_twice.c0 k a0 a1 b t1 t2
def ref_twice (a0 : Int) (a1 : Int) (b : Int) : Int × Int × Bool := ref_twice.c id a0 a1 b
def ref_twice.F : FV := mkF (cP (cA (cP (cI .u64) (cP (cI .u64) cU))) (cP (cI .u64) cU)) (fun _ => true) (fun | ((a0, (a1, ())), (b, ())) => .tuple #[.agg #[.int .u64 (ref_twice a0 a1 b).1, .int .u64 (ref_twice a0 a1 b).2.1], .bool (ref_twice a0 a1 b).2.2])
def L_ref_twice : TL := (87, ref_twice.F) :: L_ref_minus
theorem ref_twice.p0 {γ : Type} (k : Int × Int × Bool → γ) (a0 : Int) (a1 : Int) (b : Int) (t1 : Int) (t2 : Int) : ref_twice.c0 k a0 a1 b t1 t2 = k (ref_twice.c0 id a0 a1 b t1 t2) := by
  unfold ref_twice.c0; (repeat' (first | (apply pc k) | (exact rfl)))
theorem ref_twice.p {γ : Type} (k : Int × Int × Bool → γ) (a0 : Int) (a1 : Int) (b : Int) : ref_twice.c k a0 a1 b = k (ref_twice a0 a1 b) :=
  let t1 := IntKind.u64.wrap (a0 * 2 ^ min (Int.toNat 1) IntKind.u64.bits); let t2 := IntKind.u64.wrap (a1 * 2 ^ min (Int.toNat 1) IntKind.u64.bits); ref_twice.p0 k a0 a1 b t1 t2
theorem ref_twice.r (a0 : Int) (a1 : Int) (b : Int) : runF P GS (tab L_ref_minus) { merge := true } 60 Tryd.f87 [.agg #[.int .u64 a0, .int .u64 a1], .int .u64 b] = ref_twice.c (fun q => some (.tuple #[.agg #[.int .u64 (q).1, .int .u64 (q).2.1], .bool (q).2.2] : Value)) a0 a1 b := by kernel_rfl
theorem ref_twice.t : TabOK P GS (tab L_ref_twice) :=
  TabOK_mk CS ref_minus.t Tryd.func87 (by kernel_rfl) true 60 (by
    rintro ⟨⟨a0, ⟨a1, ⟨⟩⟩⟩, ⟨b, ⟨⟩⟩⟩ h
    exact (ref_twice.r a0 a1 b).trans (ref_twice.p (fun q => some (.tuple #[.agg #[.int .u64 (q).1, .int .u64 (q).2.1], .bool (q).2.2] : Value)) a0 a1 b))

def ref_bitOf.c0 {γ : Type} (n : γ) (k : Int → γ) (a0 : Int) (a1 : Int) (b : Int) (t1 : Int) : γ := bif decide (b < 64)
  then bif !decide (b < 0)
   then k (andI IntKind.u64 (a1.fdiv (2 ^ min b.toNat IntKind.u64.bits)) 1)
   else n
  else bif !decide (t1 < 0)
   then k (andI IntKind.u64 (a0.fdiv (2 ^ min (IntKind.i64.wrap (b - 64)).toNat IntKind.u64.bits)) 1)
   else n
def ref_bitOf.c {γ : Type} (n : γ) (k : Int → γ) (a0 : Int) (a1 : Int) (b : Int) : γ := let t1 := IntKind.i64.wrap (b - 64); ref_bitOf.c0 n k a0 a1 b t1
def ref_bitOf.ok (a0 : Int) (a1 : Int) (b : Int) : Bool := ref_bitOf.c false (fun _ => true) a0 a1 b
def ref_bitOf (a0 : Int) (a1 : Int) (b : Int) : Int := ref_bitOf.c (0) id a0 a1 b
def ref_bitOf.F : FV := mkF (cP (cA (cP (cI .u64) (cP (cI .u64) cU))) (cP (cI .i64) cU)) (fun | ((a0, (a1, ())), (b, ())) => ref_bitOf.ok a0 a1 b) (fun | ((a0, (a1, ())), (b, ())) => .int .u64 (ref_bitOf a0 a1 b))
def L_ref_bitOf : TL := (101, ref_bitOf.F) :: L_ref_twice
theorem ref_bitOf.p0 {γ : Type} (k : Int → γ) (a0 : Int) (a1 : Int) (b : Int) (t1 : Int) : ref_bitOf.c0 false (fun _ => true) a0 a1 b t1 = true → ref_bitOf.c0 none (fun q => some (k q)) a0 a1 b t1 = some (k (ref_bitOf.c0 (0) id a0 a1 b t1)) := by
  unfold ref_bitOf.c0; (repeat' (first | (apply pn k) | (exact pn_none _ _) | (exact pn_leaf k _)))
theorem ref_bitOf.p {γ : Type} (k : Int → γ) (a0 : Int) (a1 : Int) (b : Int) (h : ref_bitOf.ok a0 a1 b = true) : ref_bitOf.c none (fun q => some (k q)) a0 a1 b = some (k (ref_bitOf a0 a1 b)) :=
  let t1 := IntKind.i64.wrap (b - 64); ref_bitOf.p0 k a0 a1 b t1 h
theorem ref_bitOf.r (a0 : Int) (a1 : Int) (b : Int) : runF P GS (tab L_ref_twice) { merge := true } 60 Tryd.f101 [.agg #[.int .u64 a0, .int .u64 a1], .int .i64 b] = ref_bitOf.c none (fun q => some (.int .u64 (q) : Value)) a0 a1 b := by kernel_rfl
theorem ref_bitOf.t : TabOK P GS (tab L_ref_bitOf) :=
  TabOK_mk CS ref_twice.t Tryd.func101 (by kernel_rfl) true 60 (by
    rintro ⟨⟨a0, ⟨a1, ⟨⟩⟩⟩, ⟨b, ⟨⟩⟩⟩ h
    exact (ref_bitOf.r a0 a1 b).trans (ref_bitOf.p (fun q => (.int .u64 (q) : Value)) a0 a1 b h))

def ref_parted.val (q : Int × Int × Int × Int) : Value := .tuple #[.agg #[.int .u64 (q).1, .int .u64 (q).2.1], .agg #[.int .u64 (q).2.2.1, .int .u64 (q).2.2.2]]
def ref_parted.h : List (Nat × List Nat × Nat) := [(5, [2, 3, 4, 5, 6, 7, 8], 6)]
def ref_parted.e0 (q : Int × Int × Int × Int × Int × Int × Int × Int × Int × Int × Int × Int × Int) : St := { tmps := [.unk, .unk, .ptr 0 0, .ptr 1 0, .ptr 2 0, .ptr 3 0, .ptr 4 0, .ptr 5 0, .val (.int .i64 (q).1), .unk, .unk, .unk, .unk, .unk, .unk, .unk, .unk, .unk, .unk, .unk, .unk, .unk, .unk, .unk, .unk, .unk, .unk, .unk, .unk, .unk, .unk, .unk, .unk, .unk, .unk, .unk, .unk, .unk, .unk, .unk, .unk, .unk, .unk, .unk, .unk, .unk, .unk, .unk, .unk, .unk, .unk, .unk, .unk, .unk, .unk, .unk, .unk, .unk, .unk, .unk, .unk, .unk, .unk], blks := [some ⟨[.val (.int .u64 (q).2.1), .val (.int .u64 (q).2.2.1)], 56⟩, some ⟨[.val (.int .u64 (q).2.2.2.1), .val (.int .u64 (q).2.2.2.2.1)], 56⟩, some ⟨[.val (.int .u64 (q).2.2.2.2.2.1), .val (.int .u64 (q).2.2.2.2.2.2.1)], 56⟩, some ⟨[.val (.int .u64 (q).2.2.2.2.2.2.2.1), .val (.int .u64 (q).2.2.2.2.2.2.2.2.1)], 56⟩, some ⟨[.val (.int .u64 (q).2.2.2.2.2.2.2.2.2.1), .val (.int .u64 (q).2.2.2.2.2.2.2.2.2.2.1)], 56⟩, some ⟨[.val (.int .u64 (q).2.2.2.2.2.2.2.2.2.2.2.1), .val (.int .u64 (q).2.2.2.2.2.2.2.2.2.2.2.2)], 56⟩], saved := [] }
noncomputable def ref_parted.B0 : Code := loopAt [1, 1, 1, 0, 1, 0] (fbody Tryd.f86)
noncomputable def ref_parted.H (F0 : LSum) : Heads := { heads := ref_parted.h, merge := true, sums := [(5, F0)] }
noncomputable def ref_parted.H0  : Heads := { heads := ref_parted.h, merge := true, sums := [] }
noncomputable def ref_parted.K0 (F0 : LSum) : Xt → St → Option Value := kAt P GS (tab L_ref_bitOf) (ref_parted.H F0) [1, 1, 1, 0, 1, 0] 60 (fbody Tryd.f86) (retK P GS Tryd.f86)
def ref_parted.l0.c0 {γ : Type} (k0 : Int × Int × Int × Int × Int × Int × Int × Int × Int × Int × Int × Int × Int → Option γ) (k : Int × Int × Int × Int → Option γ) (s8 : Int) (b0_0 : Int) (b0_1 : Int) (b1_0 : Int) (b1_1 : Int) (b2_0 : Int) (b2_1 : Int) (b3_0 : Int) (b3_1 : Int) (b4_0 : Int) (b4_1 : Int) (b5_0 : Int) (b5_1 : Int) (t1 : Bool) (t2 : Int) (t3 : Int × Int × Bool) (t4 : Int) (t5 : Int × Int × Bool) (t6 : Int × Int) (t7 : Bool) : Option γ := bif decide (s8 ≥ 0)
  then bif t1
   then bif t3.snd.snd
    then k0 (t4, b0_0, b0_1, b1_0, b1_1, b2_0, b2_1, b3_0, b3_1, t5.fst, orI IntKind.u64 t5.snd.fst 1, t6.fst, t6.snd)
    else bif !t7
     then k0 (t4, b0_0, b0_1, b1_0, b1_1, b2_0, b2_1, b3_0, b3_1, t5.fst, orI IntKind.u64 t5.snd.fst 1, t6.fst, t6.snd)
     else k0 (t4, b0_0, b0_1, b1_0, b1_1, b2_0, b2_1, b3_0, b3_1, t5.fst, t5.snd.fst, t3.fst, t3.snd.fst)
   else none
  else k (b4_0, b4_1, b5_0, b5_1)
def ref_parted.l0.c {γ : Type} (k0 : Int × Int × Int × Int × Int × Int × Int × Int × Int × Int × Int × Int × Int → Option γ) (k : Int × Int × Int × Int → Option γ) (s8 : Int) (b0_0 : Int) (b0_1 : Int) (b1_0 : Int) (b1_1 : Int) (b2_0 : Int) (b2_1 : Int) (b3_0 : Int) (b3_1 : Int) (b4_0 : Int) (b4_1 : Int) (b5_0 : Int) (b5_1 : Int) : Option γ := let t1 := ref_bitOf.ok b0_0 b0_1 s8; let t2 := ref_bitOf b0_0 b0_1 s8; let t3 := ref_twice b5_0 b5_1 t2; let t4 := IntKind.i64.wrap (s8 - 1); let t5 := ref_twice b4_0 b4_1 0; let t6 := ref_minus t3.fst t3.snd.fst b1_0 b1_1; let t7 := ref_less t3.fst t3.snd.fst b1_0 b1_1; ref_parted.l0.c0 k0 k s8 b0_0 b0_1 b1_0 b1_1 b2_0 b2_1 b3_0 b3_1 b4_0 b4_1 b5_0 b5_1 t1 t2 t3 t4 t5 t6 t7
def ref_parted.c0 {γ : Type} (k0 : Int × Int × Int × Int × Int × Int × Int × Int × Int × Int × Int × Int × Int → Option γ) (k : Int × Int × Int × Int → Option γ) (a0 : Int) (a1 : Int) (b0 : Int) (b1 : Int) (t1 : Int) (t2 : Int × Int) (t3 : Int × Int) : Option γ := bif a0 == 0
  then bif b0 == 0
   then bif !decide (b1 = 0)
    then bif !decide (b1 = 0)
     then k (t2.fst, t2.snd, t3.fst, t3.snd)
     else none
    else none
   else k0 (127, a0, a1, b0, b1, 0, 0, 0, 0, 0, 0, 0, 0)
  else k0 (127, a0, a1, b0, b1, 0, 0, 0, 0, 0, 0, 0, 0)
def ref_parted.c {γ : Type} (k0 : Int × Int × Int × Int × Int × Int × Int × Int × Int × Int × Int × Int × Int → Option γ) (k : Int × Int × Int × Int → Option γ) (a0 : Int) (a1 : Int) (b0 : Int) (b1 : Int) : Option γ := let t1 := IntKind.u64.wrap (a1.tdiv b1); let t2 := ref_of t1; let t3 := ref_of (a1.tmod b1); ref_parted.c0 k0 k a0 a1 b0 b1 t1 t2 t3
def ref_parted.L0 (N : Nat)  : Nat → Int × Int × Int × Int × Int × Int × Int × Int × Int × Int × Int × Int × Int → Option (Int × Int × Int × Int)
  | 0, _ => none
  | m + 1, q => ref_parted.l0.c (ref_parted.L0 N m) some (q).1 (q).2.1 (q).2.2.1 (q).2.2.2.1 (q).2.2.2.2.1 (q).2.2.2.2.2.1 (q).2.2.2.2.2.2.1 (q).2.2.2.2.2.2.2.1 (q).2.2.2.2.2.2.2.2.1 (q).2.2.2.2.2.2.2.2.2.1 (q).2.2.2.2.2.2.2.2.2.2.1 (q).2.2.2.2.2.2.2.2.2.2.2.1 (q).2.2.2.2.2.2.2.2.2.2.2.2
def ref_parted.o (N : Nat) (a0 : Int) (a1 : Int) (b0 : Int) (b1 : Int) : Option (Int × Int × Int × Int) := ref_parted.c (ref_parted.L0 N  N) some a0 a1 b0 b1
noncomputable def ref_parted.S0 (N : Nat) : LSum := sumN P GS (tab L_ref_bitOf) (ref_parted.H0 ) 60 ref_parted.B0 N
theorem ref_parted.l0.p0 {γ δ : Type} (f : γ → δ) (k0 : Int × Int × Int × Int × Int × Int × Int × Int × Int × Int × Int × Int × Int → Option γ) (k : Int × Int × Int × Int → Option γ) (s8 : Int) (b0_0 : Int) (b0_1 : Int) (b1_0 : Int) (b1_1 : Int) (b2_0 : Int) (b2_1 : Int) (b3_0 : Int) (b3_1 : Int) (b4_0 : Int) (b4_1 : Int) (b5_0 : Int) (b5_1 : Int) (t1 : Bool) (t2 : Int) (t3 : Int × Int × Bool) (t4 : Int) (t5 : Int × Int × Bool) (t6 : Int × Int) (t7 : Bool) : ref_parted.l0.c0 (fun q => (k0 q).map f) (fun q => (k q).map f) s8 b0_0 b0_1 b1_0 b1_1 b2_0 b2_1 b3_0 b3_1 b4_0 b4_1 b5_0 b5_1 t1 t2 t3 t4 t5 t6 t7 = (ref_parted.l0.c0 k0 k s8 b0_0 b0_1 b1_0 b1_1 b2_0 b2_1 b3_0 b3_1 b4_0 b4_1 b5_0 b5_1 t1 t2 t3 t4 t5 t6 t7).map f := by
  unfold ref_parted.l0.c0; (repeat' (first | (apply pm f) | (exact rfl)))
theorem ref_parted.l0.p {γ δ : Type} (f : γ → δ) (k0 : Int × Int × Int × Int × Int × Int × Int × Int × Int × Int × Int × Int × Int → Option γ) (k : Int × Int × Int × Int → Option γ) (s8 : Int) (b0_0 : Int) (b0_1 : Int) (b1_0 : Int) (b1_1 : Int) (b2_0 : Int) (b2_1 : Int) (b3_0 : Int) (b3_1 : Int) (b4_0 : Int) (b4_1 : Int) (b5_0 : Int) (b5_1 : Int) : ref_parted.l0.c (fun q => (k0 q).map f) (fun q => (k q).map f) s8 b0_0 b0_1 b1_0 b1_1 b2_0 b2_1 b3_0 b3_1 b4_0 b4_1 b5_0 b5_1 = (ref_parted.l0.c k0 k s8 b0_0 b0_1 b1_0 b1_1 b2_0 b2_1 b3_0 b3_1 b4_0 b4_1 b5_0 b5_1).map f :=
  let t1 := ref_bitOf.ok b0_0 b0_1 s8; let t2 := ref_bitOf b0_0 b0_1 s8; let t3 := ref_twice b5_0 b5_1 t2; let t4 := IntKind.i64.wrap (s8 - 1); let t5 := ref_twice b4_0 b4_1 0; let t6 := ref_minus t3.fst t3.snd.fst b1_0 b1_1; let t7 := ref_less t3.fst t3.snd.fst b1_0 b1_1; ref_parted.l0.p0 f k0 k s8 b0_0 b0_1 b1_0 b1_1 b2_0 b2_1 b3_0 b3_1 b4_0 b4_1 b5_0 b5_1 t1 t2 t3 t4 t5 t6 t7
theorem ref_parted.p0 {γ δ : Type} (f : γ → δ) (k0 : Int × Int × Int × Int × Int × Int × Int × Int × Int × Int × Int × Int × Int → Option γ) (k : Int × Int × Int × Int → Option γ) (a0 : Int) (a1 : Int) (b0 : Int) (b1 : Int) (t1 : Int) (t2 : Int × Int) (t3 : Int × Int) : ref_parted.c0 (fun q => (k0 q).map f) (fun q => (k q).map f) a0 a1 b0 b1 t1 t2 t3 = (ref_parted.c0 k0 k a0 a1 b0 b1 t1 t2 t3).map f := by
  unfold ref_parted.c0; (repeat' (first | (apply pm f) | (exact rfl)))
theorem ref_parted.p {γ δ : Type} (f : γ → δ) (k0 : Int × Int × Int × Int × Int × Int × Int × Int × Int × Int × Int × Int × Int → Option γ) (k : Int × Int × Int × Int → Option γ) (a0 : Int) (a1 : Int) (b0 : Int) (b1 : Int) : ref_parted.c (fun q => (k0 q).map f) (fun q => (k q).map f) a0 a1 b0 b1 = (ref_parted.c k0 k a0 a1 b0 b1).map f :=
  let t1 := IntKind.u64.wrap (a1.tdiv b1); let t2 := ref_of t1; let t3 := ref_of (a1.tmod b1); ref_parted.p0 f k0 k a0 a1 b0 b1 t1 t2 t3
theorem ref_parted.S0.ok (N : Nat) : LoopsOK P GS (ref_parted.H0 ).sums ref_parted.B0 := by
  refine LoopsOK_code fun i hi F hF => ?_
  have hlen : (loopsOf ref_parted.B0).length = 0 := by kernel_rfl
  rw [hlen] at hi
  omega

theorem ref_parted.S0.snd (N : Nat) : SoundL P GS ref_parted.B0 (ref_parted.S0 N) := sumN_sound CS.mixed CS.names ref_bitOf.t (ref_parted.S0.ok N) N
theorem ref_parted.l0.r (F0 G0 : LSum) (s8 : Int) (b0_0 : Int) (b0_1 : Int) (b1_0 : Int) (b1_1 : Int) (b2_0 : Int) (b2_1 : Int) (b3_0 : Int) (b3_1 : Int) (b4_0 : Int) (b4_1 : Int) (b5_0 : Int) (b5_1 : Int) : ex P GS (tab L_ref_bitOf) (ref_parted.H0 ) 60 ref_parted.B0 (ref_parted.e0 (s8, b0_0, b0_1, b1_0, b1_1, b2_0, b2_1, b3_0, b3_1, b4_0, b4_1, b5_0, b5_1)) (roundK (ref_parted.H0 ) ref_parted.B0 G0 (ref_parted.K0 F0)) = ref_parted.l0.c (fun q => G0.run (ref_parted.e0 q) (ref_parted.K0 F0)) (fun q => some (ref_parted.val q)) s8 b0_0 b0_1 b1_0 b1_1 b2_0 b2_1 b3_0 b3_1 b4_0 b4_1 b5_0 b5_1 := by kernel_rfl
theorem ref_parted.r (F0 : LSum) (a0 : Int) (a1 : Int) (b0 : Int) (b1 : Int) : runF P GS (tab L_ref_bitOf) (ref_parted.H F0) 60 Tryd.f86 [.agg #[.int .u64 a0, .int .u64 a1], .agg #[.int .u64 b0, .int .u64 b1]] = ref_parted.c (fun q => F0.run (ref_parted.e0 q) (ref_parted.K0 F0)) (fun q => some (ref_parted.val q)) a0 a1 b0 b1 := by kernel_rfl
theorem ref_parted.L0.ok (N : Nat) (F0 : LSum)   : ∀ m q, (sumN P GS (tab L_ref_bitOf) (ref_parted.H0 ) 60 ref_parted.B0 m).run (ref_parted.e0 q) (ref_parted.K0 F0) = (ref_parted.L0 N  m q).map ref_parted.val
  | 0, q => rfl
  | m + 1, q => by
    have ih := ref_parted.L0.ok N F0   m
    refine (sumN_run (n := m) rfl).trans ((ref_parted.l0.r F0 (sumN P GS (tab L_ref_bitOf) (ref_parted.H0 ) 60 ref_parted.B0 m) (q).1 (q).2.1 (q).2.2.1 (q).2.2.2.1 (q).2.2.2.2.1 (q).2.2.2.2.2.1 (q).2.2.2.2.2.2.1 (q).2.2.2.2.2.2.2.1 (q).2.2.2.2.2.2.2.2.1 (q).2.2.2.2.2.2.2.2.2.1 (q).2.2.2.2.2.2.2.2.2.2.1 (q).2.2.2.2.2.2.2.2.2.2.2.1 (q).2.2.2.2.2.2.2.2.2.2.2.2).trans ?_)
    refine Eq.trans ?_ (ref_parted.l0.p ref_parted.val (ref_parted.L0 N m) some (q).1 (q).2.1 (q).2.2.1 (q).2.2.2.1 (q).2.2.2.2.1 (q).2.2.2.2.2.1 (q).2.2.2.2.2.2.1 (q).2.2.2.2.2.2.2.1 (q).2.2.2.2.2.2.2.2.1 (q).2.2.2.2.2.2.2.2.2.1 (q).2.2.2.2.2.2.2.2.2.2.1 (q).2.2.2.2.2.2.2.2.2.2.2.1 (q).2.2.2.2.2.2.2.2.2.2.2.2)
    have e0 : (fun q => (sumN P GS (tab L_ref_bitOf) (ref_parted.H0 ) 60 ref_parted.B0 m).run (ref_parted.e0 q) (ref_parted.K0 F0)) = (fun q => ((ref_parted.L0 N m) q).map ref_parted.val) := funext ih
    rw [e0]; rfl

theorem ref_parted.q (N : Nat) (a0 : Int) (a1 : Int) (b0 : Int) (b1 : Int) : runF P GS (tab L_ref_bitOf) (ref_parted.H (ref_parted.S0 N)) 60 Tryd.f86 [.agg #[.int .u64 a0, .int .u64 a1], .agg #[.int .u64 b0, .int .u64 b1]] = (ref_parted.o N a0 a1 b0 b1).map ref_parted.val := by
  have hk0 := ref_parted.L0.ok N (ref_parted.S0 N)   N
  refine (ref_parted.r (ref_parted.S0 N) a0 a1 b0 b1).trans ?_
  refine Eq.trans ?_ (ref_parted.p ref_parted.val (ref_parted.L0 N  N) some a0 a1 b0 b1)
  have e0 : (fun q => (ref_parted.S0 N).run (ref_parted.e0 q) (ref_parted.K0 (ref_parted.S0 N))) = (fun q => ((ref_parted.L0 N  N) q).map ref_parted.val) := funext hk0
  rw [e0]; rfl

theorem ref_parted.lok (N : Nat) : LoopsOK P GS (ref_parted.H (ref_parted.S0 N)).sums (fbody Tryd.f86) := by
  refine LoopsOK_code fun i hi F hF => ?_
  have hlen : (loopsOf (fbody Tryd.f86)).length = 1 := by kernel_rfl
  rw [hlen] at hi
  match i, hi with
  | 0, _ => exact soundAt (B' := ref_parted.B0) (by kernel_rfl) (by kernel_rfl) (ref_parted.S0.snd N) hF
  | _ + 1, h => omega

def ref_parted (a0 : Int) (a1 : Int) (b0 : Int) (b1 : Int) : Int × Int × Int × Int := hide ((ref_parted.o (130) a0 a1 b0 b1).getD (0, 0, 0, 0))
def ref_parted.g (a0 : Int) (a1 : Int) (b0 : Int) (b1 : Int) : Bool := hide (ref_parted.o (130) a0 a1 b0 b1).isSome
theorem ref_parted.s (a0 : Int) (a1 : Int) (b0 : Int) (b1 : Int) (h : ref_parted.g a0 a1 b0 b1 = true) : ref_parted.o (130) a0 a1 b0 b1 = some (ref_parted a0 a1 b0 b1) := by
  unfold ref_parted.g at h; unfold ref_parted; simp only [hide_eq] at h ⊢; revert h; cases ref_parted.o (130) a0 a1 b0 b1 <;> simp
def ref_parted.F : FV := mkF (cP (cA (cP (cI .u64) (cP (cI .u64) cU))) (cP (cA (cP (cI .u64) (cP (cI .u64) cU))) cU)) (fun | ((a0, (a1, ())), ((b0, (b1, ())), ())) => ref_parted.g a0 a1 b0 b1) (fun | ((a0, (a1, ())), ((b0, (b1, ())), ())) => ref_parted.val (ref_parted a0 a1 b0 b1))
def L_ref_parted : TL := (86, ref_parted.F) :: L_ref_bitOf
theorem ref_parted.t : TabOK P GS (tab L_ref_parted) :=
  TabOK_mkH CS ref_bitOf.t Tryd.func86 (by kernel_rfl) (fun | ((_, (_, ())), ((_, (_, ())), ())) => ref_parted.H (ref_parted.S0 (130))) (by rintro ⟨⟨a0, ⟨a1, ⟨⟩⟩⟩, ⟨⟨b0, ⟨b1, ⟨⟩⟩⟩, ⟨⟩⟩⟩; exact ref_parted.lok _) 60 (by
    rintro ⟨⟨a0, ⟨a1, ⟨⟩⟩⟩, ⟨⟨b0, ⟨b1, ⟨⟩⟩⟩, ⟨⟩⟩⟩ h
    exact (ref_parted.q (130) a0 a1 b0 b1).trans (congrArg (Option.map ref_parted.val) (ref_parted.s a0 a1 b0 b1 h)))

def ref_times.val (q : Int × Int) : Value := .agg #[.int .u64 (q).1, .int .u64 (q).2]
def ref_times.h : List (Nat × List Nat × Nat) := [(3, [0, 1, 4, 5, 6], 2)]
def ref_times.e0 (q : Int × Int × Int × Int × Int × Int × Int) : St := { tmps := [.val (.int .u64 (q).1), .val (.int .u64 (q).2.1), .unk, .unk, .ptr 0 0, .ptr 1 0, .val (.int .i64 (q).2.2.1), .unk, .unk, .unk, .unk, .unk, .unk, .unk, .unk, .unk, .unk, .unk, .unk, .unk, .unk, .unk, .unk, .unk, .unk, .unk, .unk, .unk, .unk, .unk, .unk, .unk, .unk, .unk, .unk], blks := [some ⟨[.val (.int .u64 (q).2.2.2.1), .val (.int .u64 (q).2.2.2.2.1)], 56⟩, some ⟨[.val (.int .u64 (q).2.2.2.2.2.1), .val (.int .u64 (q).2.2.2.2.2.2)], 56⟩], saved := [] }
noncomputable def ref_times.B0 : Code := loopAt [1, 1, 0, 1, 0] (fbody Tryd.f59)
noncomputable def ref_times.H (F0 : LSum) : Heads := { heads := ref_times.h, merge := true, sums := [(3, F0)] }
noncomputable def ref_times.H0  : Heads := { heads := ref_times.h, merge := true, sums := [] }
noncomputable def ref_times.K0 (F0 : LSum) : Xt → St → Option Value := kAt P GS (tab L_ref_parted) (ref_times.H F0) [1, 1, 0, 1, 0] 60 (fbody Tryd.f59) (retK P GS Tryd.f59)
def ref_times.l0.c0 {γ : Type} (k0 : Int × Int × Int × Int × Int × Int × Int → Option γ) (k : Int × Int → Option γ) (s0 : Int) (s1 : Int) (s6 : Int) (b0_0 : Int) (b0_1 : Int) (b1_0 : Int) (b1_1 : Int) (t1 : Int × Int × Bool) (t2 : Int) (t3 : Int) (t4 : Int) : Option γ := bif decide (s6 ≥ 0)
  then bif !decide (s6 < 0)
   then bif andI IntKind.u64 (s1.fdiv (2 ^ min s6.toNat IntKind.u64.bits)) 1 == 1
    then bif decide (t2 < s0)
     then k0 (s0, s1, t3, b0_0, b0_1, t4, t2)
     else k0 (s0, s1, t3, b0_0, b0_1, t1.fst, t2)
    else k0 (s0, s1, t3, b0_0, b0_1, t1.fst, t1.snd.fst)
   else none
  else k (b1_0, b1_1)
def ref_times.l0.c {γ : Type} (k0 : Int × Int × Int × Int × Int × Int × Int → Option γ) (k : Int × Int → Option γ) (s0 : Int) (s1 : Int) (s6 : Int) (b0_0 : Int) (b0_1 : Int) (b1_0 : Int) (b1_1 : Int) : Option γ := let t1 := ref_twice b1_0 b1_1 0; let t2 := IntKind.u64.wrap (t1.snd.fst + s0); let t3 := IntKind.i64.wrap (s6 - 1); let t4 := IntKind.u64.wrap (t1.fst + 1); ref_times.l0.c0 k0 k s0 s1 s6 b0_0 b0_1 b1_0 b1_1 t1 t2 t3 t4
def ref_times.c {γ : Type} (k0 : Int × Int × Int × Int × Int × Int × Int → Option γ) (k : Int × Int → Option γ) (a : Int) (b : Int) : Option γ := k0 (a, b, 63, 0, 0, 0, 0)
def ref_times.L0 (N : Nat)  : Nat → Int × Int × Int × Int × Int × Int × Int → Option (Int × Int)
  | 0, _ => none
  | m + 1, q => ref_times.l0.c (ref_times.L0 N m) some (q).1 (q).2.1 (q).2.2.1 (q).2.2.2.1 (q).2.2.2.2.1 (q).2.2.2.2.2.1 (q).2.2.2.2.2.2
def ref_times.o (N : Nat) (a : Int) (b : Int) : Option (Int × Int) := ref_times.c (ref_times.L0 N  N) some a b
noncomputable def ref_times.S0 (N : Nat) : LSum := sumN P GS (tab L_ref_parted) (ref_times.H0 ) 60 ref_times.B0 N
theorem ref_times.l0.p0 {γ δ : Type} (f : γ → δ) (k0 : Int × Int × Int × Int × Int × Int × Int → Option γ) (k : Int × Int → Option γ) (s0 : Int) (s1 : Int) (s6 : Int) (b0_0 : Int) (b0_1 : Int) (b1_0 : Int) (b1_1 : Int) (t1 : Int × Int × Bool) (t2 : Int) (t3 : Int) (t4 : Int) : ref_times.l0.c0 (fun q => (k0 q).map f) (fun q => (k q).map f) s0 s1 s6 b0_0 b0_1 b1_0 b1_1 t1 t2 t3 t4 = (ref_times.l0.c0 k0 k s0 s1 s6 b0_0 b0_1 b1_0 b1_1 t1 t2 t3 t4).map f := by
  unfold ref_times.l0.c0; (repeat' (first | (apply pm f) | (exact rfl)))
theorem ref_times.l0.p {γ δ : Type} (f : γ → δ) (k0 : Int × Int × Int × Int × Int × Int × Int → Option γ) (k : Int × Int → Option γ) (s0 : Int) (s1 : Int) (s6 : Int) (b0_0 : Int) (b0_1 : Int) (b1_0 : Int) (b1_1 : Int) : ref_times.l0.c (fun q => (k0 q).map f) (fun q => (k q).map f) s0 s1 s6 b0_0 b0_1 b1_0 b1_1 = (ref_times.l0.c k0 k s0 s1 s6 b0_0 b0_1 b1_0 b1_1).map f :=
  let t1 := ref_twice b1_0 b1_1 0; let t2 := IntKind.u64.wrap (t1.snd.fst + s0); let t3 := IntKind.i64.wrap (s6 - 1); let t4 := IntKind.u64.wrap (t1.fst + 1); ref_times.l0.p0 f k0 k s0 s1 s6 b0_0 b0_1 b1_0 b1_1 t1 t2 t3 t4
theorem ref_times.p {γ δ : Type} (f : γ → δ) (k0 : Int × Int × Int × Int × Int × Int × Int → Option γ) (k : Int × Int → Option γ) (a : Int) (b : Int) : ref_times.c (fun q => (k0 q).map f) (fun q => (k q).map f) a b = (ref_times.c k0 k a b).map f := by
  unfold ref_times.c; (repeat' (first | (apply pm f) | (exact rfl)))
theorem ref_times.S0.ok (N : Nat) : LoopsOK P GS (ref_times.H0 ).sums ref_times.B0 := by
  refine LoopsOK_code fun i hi F hF => ?_
  have hlen : (loopsOf ref_times.B0).length = 0 := by kernel_rfl
  rw [hlen] at hi
  omega

theorem ref_times.S0.snd (N : Nat) : SoundL P GS ref_times.B0 (ref_times.S0 N) := sumN_sound CS.mixed CS.names ref_parted.t (ref_times.S0.ok N) N
theorem ref_times.l0.r (F0 G0 : LSum) (s0 : Int) (s1 : Int) (s6 : Int) (b0_0 : Int) (b0_1 : Int) (b1_0 : Int) (b1_1 : Int) : ex P GS (tab L_ref_parted) (ref_times.H0 ) 60 ref_times.B0 (ref_times.e0 (s0, s1, s6, b0_0, b0_1, b1_0, b1_1)) (roundK (ref_times.H0 ) ref_times.B0 G0 (ref_times.K0 F0)) = ref_times.l0.c (fun q => G0.run (ref_times.e0 q) (ref_times.K0 F0)) (fun q => some (ref_times.val q)) s0 s1 s6 b0_0 b0_1 b1_0 b1_1 := by kernel_rfl
theorem ref_times.r (F0 : LSum) (a : Int) (b : Int) : runF P GS (tab L_ref_parted) (ref_times.H F0) 60 Tryd.f59 [.int .u64 a, .int .u64 b] = ref_times.c (fun q => F0.run (ref_times.e0 q) (ref_times.K0 F0)) (fun q => some (ref_times.val q)) a b := by kernel_rfl
theorem ref_times.L0.ok (N : Nat) (F0 : LSum)   : ∀ m q, (sumN P GS (tab L_ref_parted) (ref_times.H0 ) 60 ref_times.B0 m).run (ref_times.e0 q) (ref_times.K0 F0) = (ref_times.L0 N  m q).map ref_times.val
  | 0, q => rfl
  | m + 1, q => by
    have ih := ref_times.L0.ok N F0   m
    refine (sumN_run (n := m) rfl).trans ((ref_times.l0.r F0 (sumN P GS (tab L_ref_parted) (ref_times.H0 ) 60 ref_times.B0 m) (q).1 (q).2.1 (q).2.2.1 (q).2.2.2.1 (q).2.2.2.2.1 (q).2.2.2.2.2.1 (q).2.2.2.2.2.2).trans ?_)
    refine Eq.trans ?_ (ref_times.l0.p ref_times.val (ref_times.L0 N m) some (q).1 (q).2.1 (q).2.2.1 (q).2.2.2.1 (q).2.2.2.2.1 (q).2.2.2.2.2.1 (q).2.2.2.2.2.2)
    have e0 : (fun q => (sumN P GS (tab L_ref_parted) (ref_times.H0 ) 60 ref_times.B0 m).run (ref_times.e0 q) (ref_times.K0 F0)) = (fun q => ((ref_times.L0 N m) q).map ref_times.val) := funext ih
    rw [e0]; rfl

theorem ref_times.q (N : Nat) (a : Int) (b : Int) : runF P GS (tab L_ref_parted) (ref_times.H (ref_times.S0 N)) 60 Tryd.f59 [.int .u64 a, .int .u64 b] = (ref_times.o N a b).map ref_times.val := by
  have hk0 := ref_times.L0.ok N (ref_times.S0 N)   N
  refine (ref_times.r (ref_times.S0 N) a b).trans ?_
  refine Eq.trans ?_ (ref_times.p ref_times.val (ref_times.L0 N  N) some a b)
  have e0 : (fun q => (ref_times.S0 N).run (ref_times.e0 q) (ref_times.K0 (ref_times.S0 N))) = (fun q => ((ref_times.L0 N  N) q).map ref_times.val) := funext hk0
  rw [e0]; rfl

theorem ref_times.lok (N : Nat) : LoopsOK P GS (ref_times.H (ref_times.S0 N)).sums (fbody Tryd.f59) := by
  refine LoopsOK_code fun i hi F hF => ?_
  have hlen : (loopsOf (fbody Tryd.f59)).length = 1 := by kernel_rfl
  rw [hlen] at hi
  match i, hi with
  | 0, _ => exact soundAt (B' := ref_times.B0) (by kernel_rfl) (by kernel_rfl) (ref_times.S0.snd N) hF
  | _ + 1, h => omega

def ref_times (a : Int) (b : Int) : Int × Int := hide ((ref_times.o (66) a b).getD (0, 0))
def ref_times.g (a : Int) (b : Int) : Bool := hide (ref_times.o (66) a b).isSome
theorem ref_times.s (a : Int) (b : Int) (h : ref_times.g a b = true) : ref_times.o (66) a b = some (ref_times a b) := by
  unfold ref_times.g at h; unfold ref_times; simp only [hide_eq] at h ⊢; revert h; cases ref_times.o (66) a b <;> simp
def ref_times.F : FV := mkF (cP (cI .u64) (cP (cI .u64) cU)) (fun | (a, (b, ())) => ref_times.g a b) (fun | (a, (b, ())) => ref_times.val (ref_times a b))
def L_ref_times : TL := (59, ref_times.F) :: L_ref_parted
theorem ref_times.t : TabOK P GS (tab L_ref_times) :=
  TabOK_mkH CS ref_parted.t Tryd.func59 (by kernel_rfl) (fun | (_, (_, ())) => ref_times.H (ref_times.S0 (66))) (by rintro ⟨a, ⟨b, ⟨⟩⟩⟩; exact ref_times.lok _) 60 (by
    rintro ⟨a, ⟨b, ⟨⟩⟩⟩ h
    exact (ref_times.q (66) a b).trans (congrArg (Option.map ref_times.val) (ref_times.s a b h)))

def ref_gcd.val (q : Int × Int) : Value := .agg #[.int .u64 (q).1, .int .u64 (q).2]
def ref_gcd.h : List (Nat × List Nat × Nat) := [(1, [2, 3, 4], 3)]
def ref_gcd.e0 (q : Int × Int × Int × Int × Int × Int) : St := { tmps := [.unk, .unk, .ptr 0 0, .ptr 1 0, .ptr 2 0, .unk, .unk, .unk, .unk, .unk, .unk, .unk, .unk, .unk, .unk, .unk, .unk, .unk, .unk], blks := [some ⟨[.val (.int .u64 (q).1), .val (.int .u64 (q).2.1)], 56⟩, some ⟨[.val (.int .u64 (q).2.2.1), .val (.int .u64 (q).2.2.2.1)], 56⟩, some ⟨[.val (.int .u64 (q).2.2.2.2.1), .val (.int .u64 (q).2.2.2.2.2)], 56⟩], saved := [] }
noncomputable def ref_gcd.B0 : Code := loopAt [1, 0, 0] (fbody Tryd.f54)
noncomputable def ref_gcd.H (F0 : LSum) : Heads := { heads := ref_gcd.h, merge := true, sums := [(1, F0)] }
noncomputable def ref_gcd.H0  : Heads := { heads := ref_gcd.h, merge := true, sums := [] }
noncomputable def ref_gcd.K0 (F0 : LSum) : Xt → St → Option Value := kAt P GS (tab L_ref_times) (ref_gcd.H F0) [1, 0, 0] 60 (fbody Tryd.f54) (retK P GS Tryd.f54)
def ref_gcd.l0.c0 {γ : Type} (k0 : Int × Int × Int × Int × Int × Int → Option γ) (k : Int × Int → Option γ) (b0_0 : Int) (b0_1 : Int) (b1_0 : Int) (b1_1 : Int) (b2_0 : Int) (b2_1 : Int) (t1 : Bool) (t2 : Int × Int × Int × Int) : Option γ := bif !(b1_0 == 0 && (b1_1 == 0 && true))
  then bif t1
   then k0 (b1_0, b1_1, t2.snd.snd.fst, t2.snd.snd.snd, b2_0, b2_1)
   else none
  else k (b0_0, b0_1)
def ref_gcd.l0.c {γ : Type} (k0 : Int × Int × Int × Int × Int × Int → Option γ) (k : Int × Int → Option γ) (b0_0 : Int) (b0_1 : Int) (b1_0 : Int) (b1_1 : Int) (b2_0 : Int) (b2_1 : Int) : Option γ := let t1 := ref_parted.g b0_0 b0_1 b1_0 b1_1; let t2 := ref_parted b0_0 b0_1 b1_0 b1_1; ref_gcd.l0.c0 k0 k b0_0 b0_1 b1_0 b1_1 b2_0 b2_1 t1 t2
def ref_gcd.c {γ : Type} (k0 : Int × Int × Int × Int × Int × Int → Option γ) (k : Int × Int → Option γ) (a0 : Int) (a1 : Int) (b0 : Int) (b1 : Int) : Option γ := k0 (a0, a1, b0, b1, 0, 0)
def ref_gcd.L0 (N : Nat)  : Nat → Int × Int × Int × Int × Int × Int → Option (Int × Int)
  | 0, _ => none
  | m + 1, q => ref_gcd.l0.c (ref_gcd.L0 N m) some (q).1 (q).2.1 (q).2.2.1 (q).2.2.2.1 (q).2.2.2.2.1 (q).2.2.2.2.2
def ref_gcd.o (N : Nat) (a0 : Int) (a1 : Int) (b0 : Int) (b1 : Int) : Option (Int × Int) := ref_gcd.c (ref_gcd.L0 N  N) some a0 a1 b0 b1
noncomputable def ref_gcd.S0 (N : Nat) : LSum := sumN P GS (tab L_ref_times) (ref_gcd.H0 ) 60 ref_gcd.B0 N
theorem ref_gcd.l0.p0 {γ δ : Type} (f : γ → δ) (k0 : Int × Int × Int × Int × Int × Int → Option γ) (k : Int × Int → Option γ) (b0_0 : Int) (b0_1 : Int) (b1_0 : Int) (b1_1 : Int) (b2_0 : Int) (b2_1 : Int) (t1 : Bool) (t2 : Int × Int × Int × Int) : ref_gcd.l0.c0 (fun q => (k0 q).map f) (fun q => (k q).map f) b0_0 b0_1 b1_0 b1_1 b2_0 b2_1 t1 t2 = (ref_gcd.l0.c0 k0 k b0_0 b0_1 b1_0 b1_1 b2_0 b2_1 t1 t2).map f := by
  unfold ref_gcd.l0.c0; (repeat' (first | (apply pm f) | (exact rfl)))
theorem ref_gcd.l0.p {γ δ : Type} (f : γ → δ) (k0 : Int × Int × Int × Int × Int × Int → Option γ) (k : Int × Int → Option γ) (b0_0 : Int) (b0_1 : Int) (b1_0 : Int) (b1_1 : Int) (b2_0 : Int) (b2_1 : Int) : ref_gcd.l0.c (fun q => (k0 q).map f) (fun q => (k q).map f) b0_0 b0_1 b1_0 b1_1 b2_0 b2_1 = (ref_gcd.l0.c k0 k b0_0 b0_1 b1_0 b1_1 b2_0 b2_1).map f :=
  let t1 := ref_parted.g b0_0 b0_1 b1_0 b1_1; let t2 := ref_parted b0_0 b0_1 b1_0 b1_1; ref_gcd.l0.p0 f k0 k b0_0 b0_1 b1_0 b1_1 b2_0 b2_1 t1 t2
theorem ref_gcd.p {γ δ : Type} (f : γ → δ) (k0 : Int × Int × Int × Int × Int × Int → Option γ) (k : Int × Int → Option γ) (a0 : Int) (a1 : Int) (b0 : Int) (b1 : Int) : ref_gcd.c (fun q => (k0 q).map f) (fun q => (k q).map f) a0 a1 b0 b1 = (ref_gcd.c k0 k a0 a1 b0 b1).map f := by
  unfold ref_gcd.c; (repeat' (first | (apply pm f) | (exact rfl)))
theorem ref_gcd.S0.ok (N : Nat) : LoopsOK P GS (ref_gcd.H0 ).sums ref_gcd.B0 := by
  refine LoopsOK_code fun i hi F hF => ?_
  have hlen : (loopsOf ref_gcd.B0).length = 0 := by kernel_rfl
  rw [hlen] at hi
  omega

theorem ref_gcd.S0.snd (N : Nat) : SoundL P GS ref_gcd.B0 (ref_gcd.S0 N) := sumN_sound CS.mixed CS.names ref_times.t (ref_gcd.S0.ok N) N
theorem ref_gcd.l0.r (F0 G0 : LSum) (b0_0 : Int) (b0_1 : Int) (b1_0 : Int) (b1_1 : Int) (b2_0 : Int) (b2_1 : Int) : ex P GS (tab L_ref_times) (ref_gcd.H0 ) 60 ref_gcd.B0 (ref_gcd.e0 (b0_0, b0_1, b1_0, b1_1, b2_0, b2_1)) (roundK (ref_gcd.H0 ) ref_gcd.B0 G0 (ref_gcd.K0 F0)) = ref_gcd.l0.c (fun q => G0.run (ref_gcd.e0 q) (ref_gcd.K0 F0)) (fun q => some (ref_gcd.val q)) b0_0 b0_1 b1_0 b1_1 b2_0 b2_1 := by kernel_rfl
theorem ref_gcd.r (F0 : LSum) (a0 : Int) (a1 : Int) (b0 : Int) (b1 : Int) : runF P GS (tab L_ref_times) (ref_gcd.H F0) 60 Tryd.f54 [.agg #[.int .u64 a0, .int .u64 a1], .agg #[.int .u64 b0, .int .u64 b1]] = ref_gcd.c (fun q => F0.run (ref_gcd.e0 q) (ref_gcd.K0 F0)) (fun q => some (ref_gcd.val q)) a0 a1 b0 b1 := by kernel_rfl
theorem ref_gcd.L0.ok (N : Nat) (F0 : LSum)   : ∀ m q, (sumN P GS (tab L_ref_times) (ref_gcd.H0 ) 60 ref_gcd.B0 m).run (ref_gcd.e0 q) (ref_gcd.K0 F0) = (ref_gcd.L0 N  m q).map ref_gcd.val
  | 0, q => rfl
  | m + 1, q => by
    have ih := ref_gcd.L0.ok N F0   m
    refine (sumN_run (n := m) rfl).trans ((ref_gcd.l0.r F0 (sumN P GS (tab L_ref_times) (ref_gcd.H0 ) 60 ref_gcd.B0 m) (q).1 (q).2.1 (q).2.2.1 (q).2.2.2.1 (q).2.2.2.2.1 (q).2.2.2.2.2).trans ?_)
    refine Eq.trans ?_ (ref_gcd.l0.p ref_gcd.val (ref_gcd.L0 N m) some (q).1 (q).2.1 (q).2.2.1 (q).2.2.2.1 (q).2.2.2.2.1 (q).2.2.2.2.2)
    have e0 : (fun q => (sumN P GS (tab L_ref_times) (ref_gcd.H0 ) 60 ref_gcd.B0 m).run (ref_gcd.e0 q) (ref_gcd.K0 F0)) = (fun q => ((ref_gcd.L0 N m) q).map ref_gcd.val) := funext ih
    rw [e0]; rfl

theorem ref_gcd.q (N : Nat) (a0 : Int) (a1 : Int) (b0 : Int) (b1 : Int) : runF P GS (tab L_ref_times) (ref_gcd.H (ref_gcd.S0 N)) 60 Tryd.f54 [.agg #[.int .u64 a0, .int .u64 a1], .agg #[.int .u64 b0, .int .u64 b1]] = (ref_gcd.o N a0 a1 b0 b1).map ref_gcd.val := by
  have hk0 := ref_gcd.L0.ok N (ref_gcd.S0 N)   N
  refine (ref_gcd.r (ref_gcd.S0 N) a0 a1 b0 b1).trans ?_
  refine Eq.trans ?_ (ref_gcd.p ref_gcd.val (ref_gcd.L0 N  N) some a0 a1 b0 b1)
  have e0 : (fun q => (ref_gcd.S0 N).run (ref_gcd.e0 q) (ref_gcd.K0 (ref_gcd.S0 N))) = (fun q => ((ref_gcd.L0 N  N) q).map ref_gcd.val) := funext hk0
  rw [e0]; rfl

theorem ref_gcd.lok (N : Nat) : LoopsOK P GS (ref_gcd.H (ref_gcd.S0 N)).sums (fbody Tryd.f54) := by
  refine LoopsOK_code fun i hi F hF => ?_
  have hlen : (loopsOf (fbody Tryd.f54)).length = 1 := by kernel_rfl
  rw [hlen] at hi
  match i, hi with
  | 0, _ => exact soundAt (B' := ref_gcd.B0) (by kernel_rfl) (by kernel_rfl) (ref_gcd.S0.snd N) hF
  | _ + 1, h => omega

def ref_gcd (a0 : Int) (a1 : Int) (b0 : Int) (b1 : Int) : Int × Int := hide ((ref_gcd.o (b0.toNat * 18446744073709551616 + b1.toNat + 2) a0 a1 b0 b1).getD (0, 0))
def ref_gcd.g (a0 : Int) (a1 : Int) (b0 : Int) (b1 : Int) : Bool := hide (ref_gcd.o (b0.toNat * 18446744073709551616 + b1.toNat + 2) a0 a1 b0 b1).isSome
theorem ref_gcd.s (a0 : Int) (a1 : Int) (b0 : Int) (b1 : Int) (h : ref_gcd.g a0 a1 b0 b1 = true) : ref_gcd.o (b0.toNat * 18446744073709551616 + b1.toNat + 2) a0 a1 b0 b1 = some (ref_gcd a0 a1 b0 b1) := by
  unfold ref_gcd.g at h; unfold ref_gcd; simp only [hide_eq] at h ⊢; revert h; cases ref_gcd.o (b0.toNat * 18446744073709551616 + b1.toNat + 2) a0 a1 b0 b1 <;> simp
def ref_gcd.F : FV := mkF (cP (cA (cP (cI .u64) (cP (cI .u64) cU))) (cP (cA (cP (cI .u64) (cP (cI .u64) cU))) cU)) (fun | ((a0, (a1, ())), ((b0, (b1, ())), ())) => ref_gcd.g a0 a1 b0 b1) (fun | ((a0, (a1, ())), ((b0, (b1, ())), ())) => ref_gcd.val (ref_gcd a0 a1 b0 b1))
def L_ref_gcd : TL := (54, ref_gcd.F) :: L_ref_times
theorem ref_gcd.t : TabOK P GS (tab L_ref_gcd) :=
  TabOK_mkH CS ref_times.t Tryd.func54 (by kernel_rfl) (fun | ((_, (_, ())), ((b0, (b1, ())), ())) => ref_gcd.H (ref_gcd.S0 (b0.toNat * 18446744073709551616 + b1.toNat + 2))) (by rintro ⟨⟨a0, ⟨a1, ⟨⟩⟩⟩, ⟨⟨b0, ⟨b1, ⟨⟩⟩⟩, ⟨⟩⟩⟩; exact ref_gcd.lok _) 60 (by
    rintro ⟨⟨a0, ⟨a1, ⟨⟩⟩⟩, ⟨⟨b0, ⟨b1, ⟨⟩⟩⟩, ⟨⟩⟩⟩ h
    exact (ref_gcd.q (b0.toNat * 18446744073709551616 + b1.toNat + 2) a0 a1 b0 b1).trans (congrArg (Option.map ref_gcd.val) (ref_gcd.s a0 a1 b0 b1 h)))

def ref_number.c0 {γ : Type} (k : Int → γ) (a0 : Int) (a1 : Int) (t1 : Int) : γ := k (t1)
def ref_number.c {γ : Type} (k : Int → γ) (a0 : Int) (a1 : Int) : γ := let t1 := IntKind.i64.wrap a1; ref_number.c0 k a0 a1 t1
def ref_number (a0 : Int) (a1 : Int) : Int := ref_number.c id a0 a1
def ref_number.F : FV := mkF (cP (cA (cP (cI .u64) (cP (cI .u64) cU))) cU) (fun _ => true) (fun | ((a0, (a1, ())), ()) => .int .i64 (ref_number a0 a1))
def L_ref_number : TL := (63, ref_number.F) :: L_ref_gcd
theorem ref_number.p0 {γ : Type} (k : Int → γ) (a0 : Int) (a1 : Int) (t1 : Int) : ref_number.c0 k a0 a1 t1 = k (ref_number.c0 id a0 a1 t1) := by
  unfold ref_number.c0; (repeat' (first | (apply pc k) | (exact rfl)))
theorem ref_number.p {γ : Type} (k : Int → γ) (a0 : Int) (a1 : Int) : ref_number.c k a0 a1 = k (ref_number a0 a1) :=
  let t1 := IntKind.i64.wrap a1; ref_number.p0 k a0 a1 t1
theorem ref_number.r (a0 : Int) (a1 : Int) : runF P GS (tab L_ref_gcd) { merge := true } 60 Tryd.f63 [.agg #[.int .u64 a0, .int .u64 a1]] = ref_number.c (fun q => some (.int .i64 (q) : Value)) a0 a1 := by kernel_rfl
theorem ref_number.t : TabOK P GS (tab L_ref_number) :=
  TabOK_mk CS ref_gcd.t Tryd.func63 (by kernel_rfl) true 60 (by
    rintro ⟨⟨a0, ⟨a1, ⟨⟩⟩⟩, ⟨⟩⟩ h
    exact (ref_number.r a0 a1).trans (ref_number.p (fun q => some (.int .i64 (q) : Value)) a0 a1))

def ref_far.c0 {γ : Type} (k : Int → γ) (a : Int) (t1 : Int) (t2 : Int) : γ := bif decide (a < 0)
  then k (t2)
  else k (t1)
def ref_far.c {γ : Type} (k : Int → γ) (a : Int) : γ := let t1 := IntKind.u64.wrap a; let t2 := IntKind.u64.wrap (0 - t1); ref_far.c0 k a t1 t2
def ref_far (a : Int) : Int := ref_far.c id a
def ref_far.F : FV := mkF (cP (cI .i64) cU) (fun _ => true) (fun | (a, ()) => .int .u64 (ref_far a))
def L_ref_far : TL := (82, ref_far.F) :: L_ref_number
theorem ref_far.p0 {γ : Type} (k : Int → γ) (a : Int) (t1 : Int) (t2 : Int) : ref_far.c0 k a t1 t2 = k (ref_far.c0 id a t1 t2) := by
  unfold ref_far.c0; (repeat' (first | (apply pc k) | (exact rfl)))
theorem ref_far.p {γ : Type} (k : Int → γ) (a : Int) : ref_far.c k a = k (ref_far a) :=
  let t1 := IntKind.u64.wrap a; let t2 := IntKind.u64.wrap (0 - t1); ref_far.p0 k a t1 t2
theorem ref_far.r (a : Int) : runF P GS (tab L_ref_number) { merge := true } 60 Tryd.f82 [.int .i64 a] = ref_far.c (fun q => some (.int .u64 (q) : Value)) a := by kernel_rfl
theorem ref_far.t : TabOK P GS (tab L_ref_far) :=
  TabOK_mk CS ref_number.t Tryd.func82 (by kernel_rfl) true 60 (by
    rintro ⟨a, ⟨⟩⟩ h
    exact (ref_far.r a).trans (ref_far.p (fun q => some (.int .u64 (q) : Value)) a))

def ref_r.c0 {γ : Type} (n : γ) (k : Int × Int × Bool → γ) (a0 : Int) (a1 : Int) (t1 : Int) (t2 : Int) (t3 : Int × Int) (t4 : Int × Int) : γ := bif a0 == 0
  then k (t3.fst, t3.snd, decide (t1 < 0))
  else bif !decide (a0 = 0)
   then k (t4.fst, t4.snd, false)
   else n
def ref_r.c {γ : Type} (n : γ) (k : Int × Int × Bool → γ) (a0 : Int) (a1 : Int) : γ := let t1 := ref_number a0 a1; let t2 := ref_far t1; let t3 := ref_of t2; let t4 := ref_of (a1.tmod a0); ref_r.c0 n k a0 a1 t1 t2 t3 t4
def ref_r.ok (a0 : Int) (a1 : Int) : Bool := ref_r.c false (fun _ => true) a0 a1
def ref_r (a0 : Int) (a1 : Int) : Int × Int × Bool := ref_r.c (0, 0, false) id a0 a1
def ref_r.F : FV := mkF (cP (cA (cP (cI .u64) (cP (cI .u64) cU))) cU) (fun | ((a0, (a1, ())), ()) => ref_r.ok a0 a1) (fun | ((a0, (a1, ())), ()) => .agg #[.int .u64 (ref_r a0 a1).1, .int .u64 (ref_r a0 a1).2.1, .bool (ref_r a0 a1).2.2])
def L_ref_r : TL := (52, ref_r.F) :: L_ref_far
theorem ref_r.p0 {γ : Type} (k : Int × Int × Bool → γ) (a0 : Int) (a1 : Int) (t1 : Int) (t2 : Int) (t3 : Int × Int) (t4 : Int × Int) : ref_r.c0 false (fun _ => true) a0 a1 t1 t2 t3 t4 = true → ref_r.c0 none (fun q => some (k q)) a0 a1 t1 t2 t3 t4 = some (k (ref_r.c0 (0, 0, false) id a0 a1 t1 t2 t3 t4)) := by
  unfold ref_r.c0; (repeat' (first | (apply pn k) | (exact pn_none _ _) | (exact pn_leaf k _)))
theorem ref_r.p {γ : Type} (k : Int × Int × Bool → γ) (a0 : Int) (a1 : Int) (h : ref_r.ok a0 a1 = true) : ref_r.c none (fun q => some (k q)) a0 a1 = some (k (ref_r a0 a1)) :=
  let t1 := ref_number a0 a1; let t2 := ref_far t1; let t3 := ref_of t2; let t4 := ref_of (a1.tmod a0); ref_r.p0 k a0 a1 t1 t2 t3 t4 h
theorem ref_r.r (a0 : Int) (a1 : Int) : runF P GS (tab L_ref_far) { merge := true } 60 Tryd.f52 [.agg #[.int .u64 a0, .int .u64 a1]] = ref_r.c none (fun q => some (.agg #[.int .u64 (q).1, .int .u64 (q).2.1, .bool (q).2.2] : Value)) a0 a1 := by kernel_rfl
theorem ref_r.t : TabOK P GS (tab L_ref_r) :=
  TabOK_mk CS ref_far.t Tryd.func52 (by kernel_rfl) true 60 (by
    rintro ⟨⟨a0, ⟨a1, ⟨⟩⟩⟩, ⟨⟩⟩ h
    exact (ref_r.r a0 a1).trans (ref_r.p (fun q => (.agg #[.int .u64 (q).1, .int .u64 (q).2.1, .bool (q).2.2] : Value)) a0 a1 h))

def ref_rest.c0 {γ : Type} (n : γ) (k : Int × Int → γ) (a0 : Int) (a1 : Int) (a2 : Bool) (b0 : Int) (b1 : Int) (t1 : Bool) (t2 : Int × Int × Int × Int) (t3 : Int × Int) : γ := bif t1
  then bif a2
   then bif !(t2.snd.snd.fst == 0 && (t2.snd.snd.snd == 0 && true))
    then k (t3.fst, t3.snd)
    else k (t2.snd.snd.fst, t2.snd.snd.snd)
   else k (t2.snd.snd.fst, t2.snd.snd.snd)
  else n
def ref_rest.c {γ : Type} (n : γ) (k : Int × Int → γ) (a0 : Int) (a1 : Int) (a2 : Bool) (b0 : Int) (b1 : Int) : γ := let t1 := ref_parted.g a0 a1 b0 b1; let t2 := ref_parted a0 a1 b0 b1; let t3 := ref_minus b0 b1 t2.snd.snd.fst t2.snd.snd.snd; ref_rest.c0 n k a0 a1 a2 b0 b1 t1 t2 t3
def ref_rest.ok (a0 : Int) (a1 : Int) (a2 : Bool) (b0 : Int) (b1 : Int) : Bool := ref_rest.c false (fun _ => true) a0 a1 a2 b0 b1
def ref_rest (a0 : Int) (a1 : Int) (a2 : Bool) (b0 : Int) (b1 : Int) : Int × Int := ref_rest.c (0, 0) id a0 a1 a2 b0 b1
def ref_rest.F : FV := mkF (cP (cA (cP (cI .u64) (cP (cI .u64) (cP cB cU)))) (cP (cA (cP (cI .u64) (cP (cI .u64) cU))) cU)) (fun | ((a0, (a1, (a2, ()))), ((b0, (b1, ())), ())) => ref_rest.ok a0 a1 a2 b0 b1) (fun | ((a0, (a1, (a2, ()))), ((b0, (b1, ())), ())) => .agg #[.int .u64 (ref_rest a0 a1 a2 b0 b1).1, .int .u64 (ref_rest a0 a1 a2 b0 b1).2])
def L_ref_rest : TL := (51, ref_rest.F) :: L_ref_r
theorem ref_rest.p0 {γ : Type} (k : Int × Int → γ) (a0 : Int) (a1 : Int) (a2 : Bool) (b0 : Int) (b1 : Int) (t1 : Bool) (t2 : Int × Int × Int × Int) (t3 : Int × Int) : ref_rest.c0 false (fun _ => true) a0 a1 a2 b0 b1 t1 t2 t3 = true → ref_rest.c0 none (fun q => some (k q)) a0 a1 a2 b0 b1 t1 t2 t3 = some (k (ref_rest.c0 (0, 0) id a0 a1 a2 b0 b1 t1 t2 t3)) := by
  unfold ref_rest.c0; (repeat' (first | (apply pn k) | (exact pn_none _ _) | (exact pn_leaf k _)))
theorem ref_rest.p {γ : Type} (k : Int × Int → γ) (a0 : Int) (a1 : Int) (a2 : Bool) (b0 : Int) (b1 : Int) (h : ref_rest.ok a0 a1 a2 b0 b1 = true) : ref_rest.c none (fun q => some (k q)) a0 a1 a2 b0 b1 = some (k (ref_rest a0 a1 a2 b0 b1)) :=
  let t1 := ref_parted.g a0 a1 b0 b1; let t2 := ref_parted a0 a1 b0 b1; let t3 := ref_minus b0 b1 t2.snd.snd.fst t2.snd.snd.snd; ref_rest.p0 k a0 a1 a2 b0 b1 t1 t2 t3 h
theorem ref_rest.r (a0 : Int) (a1 : Int) (a2 : Bool) (b0 : Int) (b1 : Int) : runF P GS (tab L_ref_r) { merge := true } 60 Tryd.f51 [.agg #[.int .u64 a0, .int .u64 a1, .bool a2], .agg #[.int .u64 b0, .int .u64 b1]] = ref_rest.c none (fun q => some (.agg #[.int .u64 (q).1, .int .u64 (q).2] : Value)) a0 a1 a2 b0 b1 := by kernel_rfl
theorem ref_rest.t : TabOK P GS (tab L_ref_rest) :=
  TabOK_mk CS ref_r.t Tryd.func51 (by kernel_rfl) true 60 (by
    rintro ⟨⟨a0, ⟨a1, ⟨a2, ⟨⟩⟩⟩⟩, ⟨⟨b0, ⟨b1, ⟨⟩⟩⟩, ⟨⟩⟩⟩ h
    exact (ref_rest.r a0 a1 a2 b0 b1).trans (ref_rest.p (fun q => (.agg #[.int .u64 (q).1, .int .u64 (q).2] : Value)) a0 a1 a2 b0 b1 h))

def ref_class.c0 {γ : Type} (n : γ) (k : Int × Int → γ) (a0 : Int) (a1 : Int) (a2 : Bool) (b : Int) (t1 : Int × Int) (t2 : Bool) (t3 : Int × Int) : γ := bif t2
  then k (b, t3.snd)
  else n
def ref_class.c {γ : Type} (n : γ) (k : Int × Int → γ) (a0 : Int) (a1 : Int) (a2 : Bool) (b : Int) : γ := let t1 := ref_of b; let t2 := ref_rest.ok a0 a1 a2 t1.fst t1.snd; let t3 := ref_rest a0 a1 a2 t1.fst t1.snd; ref_class.c0 n k a0 a1 a2 b t1 t2 t3
def ref_class.ok (a0 : Int) (a1 : Int) (a2 : Bool) (b : Int) : Bool := ref_class.c false (fun _ => true) a0 a1 a2 b
def ref_class (a0 : Int) (a1 : Int) (a2 : Bool) (b : Int) : Int × Int := ref_class.c (0, 0) id a0 a1 a2 b
def ref_class.F : FV := mkF (cP (cA (cP (cI .u64) (cP (cI .u64) (cP cB cU)))) (cP (cI .u64) cU)) (fun | ((a0, (a1, (a2, ()))), (b, ())) => ref_class.ok a0 a1 a2 b) (fun | ((a0, (a1, (a2, ()))), (b, ())) => .agg #[.int .u64 (ref_class a0 a1 a2 b).1, .int .u64 (ref_class a0 a1 a2 b).2])
def L_ref_class : TL := (56, ref_class.F) :: L_ref_rest
theorem ref_class.p0 {γ : Type} (k : Int × Int → γ) (a0 : Int) (a1 : Int) (a2 : Bool) (b : Int) (t1 : Int × Int) (t2 : Bool) (t3 : Int × Int) : ref_class.c0 false (fun _ => true) a0 a1 a2 b t1 t2 t3 = true → ref_class.c0 none (fun q => some (k q)) a0 a1 a2 b t1 t2 t3 = some (k (ref_class.c0 (0, 0) id a0 a1 a2 b t1 t2 t3)) := by
  unfold ref_class.c0; (repeat' (first | (apply pn k) | (exact pn_none _ _) | (exact pn_leaf k _)))
theorem ref_class.p {γ : Type} (k : Int × Int → γ) (a0 : Int) (a1 : Int) (a2 : Bool) (b : Int) (h : ref_class.ok a0 a1 a2 b = true) : ref_class.c none (fun q => some (k q)) a0 a1 a2 b = some (k (ref_class a0 a1 a2 b)) :=
  let t1 := ref_of b; let t2 := ref_rest.ok a0 a1 a2 t1.fst t1.snd; let t3 := ref_rest a0 a1 a2 t1.fst t1.snd; ref_class.p0 k a0 a1 a2 b t1 t2 t3 h
theorem ref_class.r (a0 : Int) (a1 : Int) (a2 : Bool) (b : Int) : runF P GS (tab L_ref_rest) { merge := true } 60 Tryd.f56 [.agg #[.int .u64 a0, .int .u64 a1, .bool a2], .int .u64 b] = ref_class.c none (fun q => some (.agg #[.int .u64 (q).1, .int .u64 (q).2] : Value)) a0 a1 a2 b := by kernel_rfl
theorem ref_class.t : TabOK P GS (tab L_ref_class) :=
  TabOK_mk CS ref_rest.t Tryd.func56 (by kernel_rfl) true 60 (by
    rintro ⟨⟨a0, ⟨a1, ⟨a2, ⟨⟩⟩⟩⟩, ⟨b, ⟨⟩⟩⟩ h
    exact (ref_class.r a0 a1 a2 b).trans (ref_class.p (fun q => (.agg #[.int .u64 (q).1, .int .u64 (q).2] : Value)) a0 a1 a2 b h))

end
end Go.Proofs.YtoggbmfjkcbilaaDoor.V
