/- What the functions of this seat compute, told by evaluation of their code. Conditions: none. -/
import Derived.Test.YtoggbmfjkcbilaaDoorE6
set_option linter.unusedVariables false
set_option linter.unusedSimpArgs false
namespace Go.Proofs.YtoggbmfjkcbilaaDoor.V
open Go Go.Wk
noncomputable section

def bits_TrailingZeros64.c0 {γ : Type} (n : γ) (k : Int → γ) (a : Int) (t1 : Int) (t2 : Int) (t3 : Int) : γ := bif a == 0
  then k (64)
  else bif decide (0 ≤ t2.fdiv (2 ^ min (Int.toNat 58) IntKind.u64.bits)) && decide (t2.fdiv (2 ^ min (Int.toNat 58) IntKind.u64.bits) < ↑64)
   then bif (0 + ((IntKind.u64.wrap (andI IntKind.u64 a (IntKind.u64.wrap (0 - a)) * 285870213051353865)).fdiv (2 ^ min (Int.toNat 58) IntKind.u64.bits)).toNat * 1).blt deBruijn.length
    then k (t3)
    else n
   else n
def bits_TrailingZeros64.c {γ : Type} (n : γ) (k : Int → γ) (a : Int) : γ := let t1 := IntKind.u64.wrap (0 - a); let t2 := IntKind.u64.wrap (andI IntKind.u64 a t1 * 285870213051353865); let t3 := IntKind.i64.wrap (deBruijn.getD (0 + ((IntKind.u64.wrap (andI IntKind.u64 a (IntKind.u64.wrap (0 - a)) * 285870213051353865)).fdiv (2 ^ min (Int.toNat 58) IntKind.u64.bits)).toNat * 1) 0); bits_TrailingZeros64.c0 n k a t1 t2 t3
def bits_TrailingZeros64.ok (a : Int) : Bool := bits_TrailingZeros64.c false (fun _ => true) a
def bits_TrailingZeros64 (a : Int) : Int := bits_TrailingZeros64.c (0) id a
def bits_TrailingZeros64.F : FV := mkF (cP (cI .u64) cU) (fun _ => true) (fun | (a, ()) => .int .i64 (bits_TrailingZeros64 a))
def L_bits_TrailingZeros64 : TL := (99, bits_TrailingZeros64.F) :: L_law_CongSets
theorem bits_TrailingZeros64.okt (a : Int) : bits_TrailingZeros64.ok a = true := by
  unfold bits_TrailingZeros64.ok bits_TrailingZeros64.c bits_TrailingZeros64.c0; simp only [tzi, tzi', tzj, cond_true, Bool.cond_self]
theorem bits_TrailingZeros64.p0 {γ : Type} (k : Int → γ) (a : Int) (t1 : Int) (t2 : Int) (t3 : Int) : bits_TrailingZeros64.c0 false (fun _ => true) a t1 t2 t3 = true → bits_TrailingZeros64.c0 none (fun q => some (k q)) a t1 t2 t3 = some (k (bits_TrailingZeros64.c0 (0) id a t1 t2 t3)) := by
  unfold bits_TrailingZeros64.c0; (repeat' (first | (apply pn k) | (exact pn_none _ _) | (exact pn_leaf k _)))
theorem bits_TrailingZeros64.p {γ : Type} (k : Int → γ) (a : Int) (h : bits_TrailingZeros64.ok a = true) : bits_TrailingZeros64.c none (fun q => some (k q)) a = some (k (bits_TrailingZeros64 a)) :=
  let t1 := IntKind.u64.wrap (0 - a); let t2 := IntKind.u64.wrap (andI IntKind.u64 a t1 * 285870213051353865); let t3 := IntKind.i64.wrap (deBruijn.getD (0 + ((IntKind.u64.wrap (andI IntKind.u64 a (IntKind.u64.wrap (0 - a)) * 285870213051353865)).fdiv (2 ^ min (Int.toNat 58) IntKind.u64.bits)).toNat * 1) 0); bits_TrailingZeros64.p0 k a t1 t2 t3 h
theorem bits_TrailingZeros64.r (a : Int) : runF P G (tab L_law_CongSets) { merge := true } 60 Tryd.f99 [.int .u64 a] = bits_TrailingZeros64.c none (fun q => some (.int .i64 (q) : Value)) a := by kernel_rfl
theorem bits_TrailingZeros64.t : TabOK P G (tab L_bits_TrailingZeros64) :=
  TabOK_mk C (TabOK_sub GS_sub law_CongSets.t) Tryd.func99 (by kernel_rfl) true 60 (by
    rintro ⟨a, ⟨⟩⟩ h
    exact (bits_TrailingZeros64.r a).trans (bits_TrailingZeros64.p (fun q => (.int .i64 (q) : Value)) a (bits_TrailingZeros64.okt a)))

def cong_amount.c0 {γ : Type} (k : Int → γ) (a0 : Int) (a1 : Int) (t1 : Bool) (t2 : Int) (t3 : Int) : γ := bif t1
  then bif decide (t2 < 0)
   then k (t3)
   else k (a1)
  else k (a1)
def cong_amount.c {γ : Type} (k : Int → γ) (a0 : Int) (a1 : Int) : γ := let t1 := cong_alone a0 a1; let t2 := IntKind.i64.wrap a1; let t3 := IntKind.u64.wrap (0 - a1); cong_amount.c0 k a0 a1 t1 t2 t3
def cong_amount (a0 : Int) (a1 : Int) : Int := cong_amount.c id a0 a1
def cong_amount.F : FV := mkF (cP (cA (cP (cI .u64) (cP (cI .u64) cU))) cU) (fun _ => true) (fun | ((a0, (a1, ())), ()) => .int .u64 (cong_amount a0 a1))
def L_cong_amount : TL := (78, cong_amount.F) :: L_bits_TrailingZeros64
theorem cong_amount.p0 {γ : Type} (k : Int → γ) (a0 : Int) (a1 : Int) (t1 : Bool) (t2 : Int) (t3 : Int) : cong_amount.c0 k a0 a1 t1 t2 t3 = k (cong_amount.c0 id a0 a1 t1 t2 t3) := by
  unfold cong_amount.c0; (repeat' (first | (apply pc k) | (exact rfl)))
theorem cong_amount.p {γ : Type} (k : Int → γ) (a0 : Int) (a1 : Int) : cong_amount.c k a0 a1 = k (cong_amount a0 a1) :=
  let t1 := cong_alone a0 a1; let t2 := IntKind.i64.wrap a1; let t3 := IntKind.u64.wrap (0 - a1); cong_amount.p0 k a0 a1 t1 t2 t3
theorem cong_amount.r (a0 : Int) (a1 : Int) : runF P G (tab L_bits_TrailingZeros64) { merge := true } 60 Tryd.f78 [.agg #[.int .u64 a0, .int .u64 a1]] = cong_amount.c (fun q => some (.int .u64 (q) : Value)) a0 a1 := by kernel_rfl
theorem cong_amount.t : TabOK P G (tab L_cong_amount) :=
  TabOK_mk C bits_TrailingZeros64.t Tryd.func78 (by kernel_rfl) true 60 (by
    rintro ⟨⟨a0, ⟨a1, ⟨⟩⟩⟩, ⟨⟩⟩ h
    exact (cong_amount.r a0 a1).trans (cong_amount.p (fun q => some (.int .u64 (q) : Value)) a0 a1))

def cong_product.c0 {γ : Type} (k : Int × Int → γ) (a : Int) (b : Int) (t1 : Int × Int) : γ := k (t1.fst, t1.snd)
def cong_product.c {γ : Type} (k : Int × Int → γ) (a : Int) (b : Int) : γ := let t1 := bits_Mul64 a b; cong_product.c0 k a b t1
def cong_product (a : Int) (b : Int) : Int × Int := cong_product.c id a b
def cong_product.F : FV := mkF (cP (cI .u64) (cP (cI .u64) cU)) (fun _ => true) (fun | (a, (b, ())) => .agg #[.int .u64 (cong_product a b).1, .int .u64 (cong_product a b).2])
def L_cong_product : TL := (77, cong_product.F) :: L_cong_amount
theorem cong_product.p0 {γ : Type} (k : Int × Int → γ) (a : Int) (b : Int) (t1 : Int × Int) : cong_product.c0 k a b t1 = k (cong_product.c0 id a b t1) := by
  unfold cong_product.c0; (repeat' (first | (apply pc k) | (exact rfl)))
theorem cong_product.p {γ : Type} (k : Int × Int → γ) (a : Int) (b : Int) : cong_product.c k a b = k (cong_product a b) :=
  let t1 := bits_Mul64 a b; cong_product.p0 k a b t1
theorem cong_product.r (a : Int) (b : Int) : runF P G (tab L_cong_amount) { merge := true } 60 Tryd.f77 [.int .u64 a, .int .u64 b] = cong_product.c (fun q => some (.agg #[.int .u64 (q).1, .int .u64 (q).2] : Value)) a b := by kernel_rfl
theorem cong_product.t : TabOK P G (tab L_cong_product) :=
  TabOK_mk C cong_amount.t Tryd.func77 (by kernel_rfl) true 60 (by
    rintro ⟨a, ⟨b, ⟨⟩⟩⟩ h
    exact (cong_product.r a b).trans (cong_product.p (fun q => some (.agg #[.int .u64 (q).1, .int .u64 (q).2] : Value)) a b))

def wide_noughts.c0 {γ : Type} (k : Int → γ) (a0 : Int) (a1 : Int) (t1 : Int) (t2 : Int) (t3 : Int) : γ := bif a1 != 0
  then k (t1)
  else k (t3)
def wide_noughts.c {γ : Type} (k : Int → γ) (a0 : Int) (a1 : Int) : γ := let t1 := bits_TrailingZeros64 a1; let t2 := bits_TrailingZeros64 a0; let t3 := IntKind.i64.wrap (64 + t2); wide_noughts.c0 k a0 a1 t1 t2 t3
def wide_noughts (a0 : Int) (a1 : Int) : Int := wide_noughts.c id a0 a1
def wide_noughts.F : FV := mkF (cP (cA (cP (cI .u64) (cP (cI .u64) cU))) cU) (fun _ => true) (fun | ((a0, (a1, ())), ()) => .int .i64 (wide_noughts a0 a1))
def L_wide_noughts : TL := (79, wide_noughts.F) :: L_cong_product
theorem wide_noughts.p0 {γ : Type} (k : Int → γ) (a0 : Int) (a1 : Int) (t1 : Int) (t2 : Int) (t3 : Int) : wide_noughts.c0 k a0 a1 t1 t2 t3 = k (wide_noughts.c0 id a0 a1 t1 t2 t3) := by
  unfold wide_noughts.c0; (repeat' (first | (apply pc k) | (exact rfl)))
theorem wide_noughts.p {γ : Type} (k : Int → γ) (a0 : Int) (a1 : Int) : wide_noughts.c k a0 a1 = k (wide_noughts a0 a1) :=
  let t1 := bits_TrailingZeros64 a1; let t2 := bits_TrailingZeros64 a0; let t3 := IntKind.i64.wrap (64 + t2); wide_noughts.p0 k a0 a1 t1 t2 t3
theorem wide_noughts.r (a0 : Int) (a1 : Int) : runF P G (tab L_cong_product) { merge := true } 60 Tryd.f79 [.agg #[.int .u64 a0, .int .u64 a1]] = wide_noughts.c (fun q => some (.int .i64 (q) : Value)) a0 a1 := by kernel_rfl
theorem wide_noughts.t : TabOK P G (tab L_wide_noughts) :=
  TabOK_mk C cong_product.t Tryd.func79 (by kernel_rfl) true 60 (by
    rintro ⟨⟨a0, ⟨a1, ⟨⟩⟩⟩, ⟨⟩⟩ h
    exact (wide_noughts.r a0 a1).trans (wide_noughts.p (fun q => some (.int .i64 (q) : Value)) a0 a1))

def wide_down.c0 {γ : Type} (n : γ) (k : Int × Int → γ) (a0 : Int) (a1 : Int) (b : Int) (t1 : Int) (t2 : Int) (t3 : Int) : γ := bif decide (b ≥ 64)
  then bif !decide (t1 < 0)
   then k (0, a0.fdiv (2 ^ min (IntKind.i64.wrap (b - 64)).toNat IntKind.u64.bits))
   else n
  else bif !decide (b < 0)
   then bif !decide (b < 0)
    then bif !decide (t2 < 0)
     then k (a0.fdiv (2 ^ min b.toNat IntKind.u64.bits), orI IntKind.u64 (a1.fdiv (2 ^ min b.toNat IntKind.u64.bits)) t3)
     else n
    else n
   else n
def wide_down.c {γ : Type} (n : γ) (k : Int × Int → γ) (a0 : Int) (a1 : Int) (b : Int) : γ := let t1 := IntKind.i64.wrap (b - 64); let t2 := IntKind.i64.wrap (64 - b); let t3 := IntKind.u64.wrap (a0 * 2 ^ min (IntKind.i64.wrap (64 - b)).toNat IntKind.u64.bits); wide_down.c0 n k a0 a1 b t1 t2 t3
def wide_down.ok (a0 : Int) (a1 : Int) (b : Int) : Bool := wide_down.c false (fun _ => true) a0 a1 b
def wide_down (a0 : Int) (a1 : Int) (b : Int) : Int × Int := wide_down.c (0, 0) id a0 a1 b
def wide_down.F : FV := mkF (cP (cA (cP (cI .u64) (cP (cI .u64) cU))) (cP (cI .i64) cU)) (fun | ((a0, (a1, ())), (b, ())) => wide_down.ok a0 a1 b) (fun | ((a0, (a1, ())), (b, ())) => .agg #[.int .u64 (wide_down a0 a1 b).1, .int .u64 (wide_down a0 a1 b).2])
def L_wide_down : TL := (95, wide_down.F) :: L_wide_noughts
theorem wide_down.p0 {γ : Type} (k : Int × Int → γ) (a0 : Int) (a1 : Int) (b : Int) (t1 : Int) (t2 : Int) (t3 : Int) : wide_down.c0 false (fun _ => true) a0 a1 b t1 t2 t3 = true → wide_down.c0 none (fun q => some (k q)) a0 a1 b t1 t2 t3 = some (k (wide_down.c0 (0, 0) id a0 a1 b t1 t2 t3)) := by
  unfold wide_down.c0; (repeat' (first | (apply pn k) | (exact pn_none _ _) | (exact pn_leaf k _)))
theorem wide_down.p {γ : Type} (k : Int × Int → γ) (a0 : Int) (a1 : Int) (b : Int) (h : wide_down.ok a0 a1 b = true) : wide_down.c none (fun q => some (k q)) a0 a1 b = some (k (wide_down a0 a1 b)) :=
  let t1 := IntKind.i64.wrap (b - 64); let t2 := IntKind.i64.wrap (64 - b); let t3 := IntKind.u64.wrap (a0 * 2 ^ min (IntKind.i64.wrap (64 - b)).toNat IntKind.u64.bits); wide_down.p0 k a0 a1 b t1 t2 t3 h
theorem wide_down.r (a0 : Int) (a1 : Int) (b : Int) : runF P G (tab L_wide_noughts) { merge := true } 60 Tryd.f95 [.agg #[.int .u64 a0, .int .u64 a1], .int .i64 b] = wide_down.c none (fun q => some (.agg #[.int .u64 (q).1, .int .u64 (q).2] : Value)) a0 a1 b := by kernel_rfl
theorem wide_down.t : TabOK P G (tab L_wide_down) :=
  TabOK_mk C wide_noughts.t Tryd.func95 (by kernel_rfl) true 60 (by
    rintro ⟨⟨a0, ⟨a1, ⟨⟩⟩⟩, ⟨b, ⟨⟩⟩⟩ h
    exact (wide_down.r a0 a1 b).trans (wide_down.p (fun q => (.agg #[.int .u64 (q).1, .int .u64 (q).2] : Value)) a0 a1 b h))

def wide_up.c0 {γ : Type} (n : γ) (k : Int × Int → γ) (a0 : Int) (a1 : Int) (b : Int) (t1 : Int) (t2 : Int) (t3 : Int) (t4 : Int) (t5 : Int) : γ := bif decide (b ≥ 64)
  then bif !decide (t1 < 0)
   then k (t2, 0)
   else n
  else bif !decide (b < 0)
   then bif !decide (t3 < 0)
    then bif !decide (b < 0)
     then k (orI IntKind.u64 t4 (a1.fdiv (2 ^ min (IntKind.i64.wrap (64 - b)).toNat IntKind.u64.bits)), t5)
     else n
    else n
   else n
def wide_up.c {γ : Type} (n : γ) (k : Int × Int → γ) (a0 : Int) (a1 : Int) (b : Int) : γ := let t1 := IntKind.i64.wrap (b - 64); let t2 := IntKind.u64.wrap (a1 * 2 ^ min (IntKind.i64.wrap (b - 64)).toNat IntKind.u64.bits); let t3 := IntKind.i64.wrap (64 - b); let t4 := IntKind.u64.wrap (a0 * 2 ^ min b.toNat IntKind.u64.bits); let t5 := IntKind.u64.wrap (a1 * 2 ^ min b.toNat IntKind.u64.bits); wide_up.c0 n k a0 a1 b t1 t2 t3 t4 t5
def wide_up.ok (a0 : Int) (a1 : Int) (b : Int) : Bool := wide_up.c false (fun _ => true) a0 a1 b
def wide_up (a0 : Int) (a1 : Int) (b : Int) : Int × Int := wide_up.c (0, 0) id a0 a1 b
def wide_up.F : FV := mkF (cP (cA (cP (cI .u64) (cP (cI .u64) cU))) (cP (cI .i64) cU)) (fun | ((a0, (a1, ())), (b, ())) => wide_up.ok a0 a1 b) (fun | ((a0, (a1, ())), (b, ())) => .agg #[.int .u64 (wide_up a0 a1 b).1, .int .u64 (wide_up a0 a1 b).2])
def L_wide_up : TL := (98, wide_up.F) :: L_wide_down
theorem wide_up.p0 {γ : Type} (k : Int × Int → γ) (a0 : Int) (a1 : Int) (b : Int) (t1 : Int) (t2 : Int) (t3 : Int) (t4 : Int) (t5 : Int) : wide_up.c0 false (fun _ => true) a0 a1 b t1 t2 t3 t4 t5 = true → wide_up.c0 none (fun q => some (k q)) a0 a1 b t1 t2 t3 t4 t5 = some (k (wide_up.c0 (0, 0) id a0 a1 b t1 t2 t3 t4 t5)) := by
  unfold wide_up.c0; (repeat' (first | (apply pn k) | (exact pn_none _ _) | (exact pn_leaf k _)))
theorem wide_up.p {γ : Type} (k : Int × Int → γ) (a0 : Int) (a1 : Int) (b : Int) (h : wide_up.ok a0 a1 b = true) : wide_up.c none (fun q => some (k q)) a0 a1 b = some (k (wide_up a0 a1 b)) :=
  let t1 := IntKind.i64.wrap (b - 64); let t2 := IntKind.u64.wrap (a1 * 2 ^ min (IntKind.i64.wrap (b - 64)).toNat IntKind.u64.bits); let t3 := IntKind.i64.wrap (64 - b); let t4 := IntKind.u64.wrap (a0 * 2 ^ min b.toNat IntKind.u64.bits); let t5 := IntKind.u64.wrap (a1 * 2 ^ min b.toNat IntKind.u64.bits); wide_up.p0 k a0 a1 b t1 t2 t3 t4 t5 h
theorem wide_up.r (a0 : Int) (a1 : Int) (b : Int) : runF P G (tab L_wide_down) { merge := true } 60 Tryd.f98 [.agg #[.int .u64 a0, .int .u64 a1], .int .i64 b] = wide_up.c none (fun q => some (.agg #[.int .u64 (q).1, .int .u64 (q).2] : Value)) a0 a1 b := by kernel_rfl
theorem wide_up.t : TabOK P G (tab L_wide_up) :=
  TabOK_mk C wide_down.t Tryd.func98 (by kernel_rfl) true 60 (by
    rintro ⟨⟨a0, ⟨a1, ⟨⟩⟩⟩, ⟨b, ⟨⟩⟩⟩ h
    exact (wide_up.r a0 a1 b).trans (wide_up.p (fun q => (.agg #[.int .u64 (q).1, .int .u64 (q).2] : Value)) a0 a1 b h))

def wide_below.c {γ : Type} (k : Bool → γ) (a0 : Int) (a1 : Int) (b0 : Int) (b1 : Int) : γ := bif decide (a0 < b0)
  then k (true)
  else bif a0 == b0
   then k (decide (a1 < b1))
   else k (false)
def wide_below (a0 : Int) (a1 : Int) (b0 : Int) (b1 : Int) : Bool := wide_below.c id a0 a1 b0 b1
def wide_below.F : FV := mkF (cP (cA (cP (cI .u64) (cP (cI .u64) cU))) (cP (cA (cP (cI .u64) (cP (cI .u64) cU))) cU)) (fun _ => true) (fun | ((a0, (a1, ())), ((b0, (b1, ())), ())) => .bool (wide_below a0 a1 b0 b1))
def L_wide_below : TL := (96, wide_below.F) :: L_wide_up
theorem wide_below.p {γ : Type} (k : Bool → γ) (a0 : Int) (a1 : Int) (b0 : Int) (b1 : Int) : wide_below.c k a0 a1 b0 b1 = k (wide_below a0 a1 b0 b1) := by
  unfold wide_below wide_below.c; (repeat' (first | (apply pc k) | (exact rfl)))
theorem wide_below.r (a0 : Int) (a1 : Int) (b0 : Int) (b1 : Int) : runF P G (tab L_wide_up) { merge := true } 60 Tryd.f96 [.agg #[.int .u64 a0, .int .u64 a1], .agg #[.int .u64 b0, .int .u64 b1]] = wide_below.c (fun q => some (.bool (q) : Value)) a0 a1 b0 b1 := by kernel_rfl
theorem wide_below.t : TabOK P G (tab L_wide_below) :=
  TabOK_mk C wide_up.t Tryd.func96 (by kernel_rfl) true 60 (by
    rintro ⟨⟨a0, ⟨a1, ⟨⟩⟩⟩, ⟨⟨b0, ⟨b1, ⟨⟩⟩⟩, ⟨⟩⟩⟩ h
    exact (wide_below.r a0 a1 b0 b1).trans (wide_below.p (fun q => some (.bool (q) : Value)) a0 a1 b0 b1))

def wide_less.c0 {γ : Type} (k : Int × Int → γ) (a0 : Int) (a1 : Int) (b0 : Int) (b1 : Int) (t1 : Int) (t2 : Int × Int) (t3 : Int) : γ := k (t3, t2.fst)
def wide_less.c {γ : Type} (k : Int × Int → γ) (a0 : Int) (a1 : Int) (b0 : Int) (b1 : Int) : γ := let t1 := IntKind.u64.wrap (a0 - b0); let t2 := bits_Sub64 a1 b1 0; let t3 := IntKind.u64.wrap (t1 - t2.snd); wide_less.c0 k a0 a1 b0 b1 t1 t2 t3
def wide_less (a0 : Int) (a1 : Int) (b0 : Int) (b1 : Int) : Int × Int := wide_less.c id a0 a1 b0 b1
def wide_less.F : FV := mkF (cP (cA (cP (cI .u64) (cP (cI .u64) cU))) (cP (cA (cP (cI .u64) (cP (cI .u64) cU))) cU)) (fun _ => true) (fun | ((a0, (a1, ())), ((b0, (b1, ())), ())) => .agg #[.int .u64 (wide_less a0 a1 b0 b1).1, .int .u64 (wide_less a0 a1 b0 b1).2])
def L_wide_less : TL := (97, wide_less.F) :: L_wide_below
theorem wide_less.p0 {γ : Type} (k : Int × Int → γ) (a0 : Int) (a1 : Int) (b0 : Int) (b1 : Int) (t1 : Int) (t2 : Int × Int) (t3 : Int) : wide_less.c0 k a0 a1 b0 b1 t1 t2 t3 = k (wide_less.c0 id a0 a1 b0 b1 t1 t2 t3) := by
  unfold wide_less.c0; (repeat' (first | (apply pc k) | (exact rfl)))
theorem wide_less.p {γ : Type} (k : Int × Int → γ) (a0 : Int) (a1 : Int) (b0 : Int) (b1 : Int) : wide_less.c k a0 a1 b0 b1 = k (wide_less a0 a1 b0 b1) :=
  let t1 := IntKind.u64.wrap (a0 - b0); let t2 := bits_Sub64 a1 b1 0; let t3 := IntKind.u64.wrap (t1 - t2.snd); wide_less.p0 k a0 a1 b0 b1 t1 t2 t3
theorem wide_less.r (a0 : Int) (a1 : Int) (b0 : Int) (b1 : Int) : runF P G (tab L_wide_below) { merge := true } 60 Tryd.f97 [.agg #[.int .u64 a0, .int .u64 a1], .agg #[.int .u64 b0, .int .u64 b1]] = wide_less.c (fun q => some (.agg #[.int .u64 (q).1, .int .u64 (q).2] : Value)) a0 a1 b0 b1 := by kernel_rfl
theorem wide_less.t : TabOK P G (tab L_wide_less) :=
  TabOK_mk C wide_below.t Tryd.func97 (by kernel_rfl) true 60 (by
    rintro ⟨⟨a0, ⟨a1, ⟨⟩⟩⟩, ⟨⟨b0, ⟨b1, ⟨⟩⟩⟩, ⟨⟩⟩⟩ h
    exact (wide_less.r a0 a1 b0 b1).trans (wide_less.p (fun q => some (.agg #[.int .u64 (q).1, .int .u64 (q).2] : Value)) a0 a1 b0 b1))

def cong_common.val (q : Int × Int) : Value := .agg #[.int .u64 (q).1, .int .u64 (q).2]
def cong_common.h : List (Nat × List Nat × Nat) := [(8, [2, 3, 4, 5], 3)]
def cong_common.e0 (q : Int × Int × Int × Int × Int × Int × Int) : St := { tmps := [.unk, .unk, .ptr 0 0, .ptr 1 0, .ptr 2 0, .val (.int .i64 (q).1), .unk, .unk, .unk, .unk, .unk, .unk, .unk, .unk, .unk, .unk, .unk, .unk, .unk, .unk, .unk, .unk, .unk, .unk, .unk, .unk, .unk, .unk, .unk, .unk, .unk, .unk, .unk, .unk, .unk, .unk, .unk, .unk, .unk, .unk, .unk, .unk], blks := [some ⟨[.val (.int .u64 (q).2.1), .val (.int .u64 (q).2.2.1)], 76⟩, some ⟨[.val (.int .u64 (q).2.2.2.1), .val (.int .u64 (q).2.2.2.2.1)], 76⟩, some ⟨[.val (.int .u64 (q).2.2.2.2.2.1), .val (.int .u64 (q).2.2.2.2.2.2)], 76⟩], saved := [] }
noncomputable def cong_common.B0 : Code := loopAt [1, 1, 1, 1, 0, 0] (fbody Tryd.f76)
noncomputable def cong_common.H (F0 : LSum) : Heads := { heads := cong_common.h, merge := true, sums := [(8, F0)] }
noncomputable def cong_common.H0  : Heads := { heads := cong_common.h, merge := true, sums := [] }
noncomputable def cong_common.K0 (F0 : LSum) : Xt → St → Option Value := kAt P G (tab L_wide_less) (cong_common.H F0) [1, 1, 1, 1, 0, 0] 60 (fbody Tryd.f76) (retK P G Tryd.f76)
def cong_common.l0.c0 {γ : Type} (k0 : Int × Int × Int × Int × Int × Int × Int → Option γ) (k : Int × Int → Option γ) (s5 : Int) (b0_0 : Int) (b0_1 : Int) (b1_0 : Int) (b1_1 : Int) (b2_0 : Int) (b2_1 : Int) (t1 : Int) (t2 : Bool) (t3 : Int × Int) (t4 : Bool) (t5 : Int) (t6 : Int) (t7 : Int) (t8 : Int) (t9 : Int × Int) (t10 : Bool) (t11 : Int × Int) : Option γ := bif !(b1_0 == 0 && (b1_1 == 0 && true))
  then bif t2
   then k0 (s5, t5, t6, t9.fst, t9.snd, b2_0, b2_1)
   else none
  else bif t10
   then k (t11.fst, t11.snd)
   else none
def cong_common.l0.c {γ : Type} (k0 : Int × Int × Int × Int × Int × Int × Int → Option γ) (k : Int × Int → Option γ) (s5 : Int) (b0_0 : Int) (b0_1 : Int) (b1_0 : Int) (b1_1 : Int) (b2_0 : Int) (b2_1 : Int) : Option γ := let t1 := wide_noughts b1_0 b1_1; let t2 := wide_down.ok b1_0 b1_1 t1; let t3 := wide_down b1_0 b1_1 t1; let t4 := wide_below t3.fst t3.snd b0_0 b0_1; let t5 := bif t4 then t3.fst else b0_0; let t6 := bif t4 then t3.snd else b0_1; let t7 := bif t4 then b0_0 else t3.fst; let t8 := bif t4 then b0_1 else t3.snd; let t9 := wide_less t7 t8 t5 t6; let t10 := wide_up.ok b0_0 b0_1 s5; let t11 := wide_up b0_0 b0_1 s5; cong_common.l0.c0 k0 k s5 b0_0 b0_1 b1_0 b1_1 b2_0 b2_1 t1 t2 t3 t4 t5 t6 t7 t8 t9 t10 t11
def cong_common.c0 {γ : Type} (k0 : Int × Int × Int × Int × Int × Int × Int → Option γ) (k : Int × Int → Option γ) (a0 : Int) (a1 : Int) (b0 : Int) (b1 : Int) (t1 : Int) (t2 : Bool) (t3 : Int) (t4 : Int) (t5 : Int × Int) : Option γ := bif 0 == a0 && (0 == a1 && true)
  then k (b0, b1)
  else bif 0 == b0 && (0 == b1 && true)
   then k (a0, a1)
   else bif t2
    then k0 (t4, t5.fst, t5.snd, b0, b1, 0, 0)
    else none
def cong_common.c {γ : Type} (k0 : Int × Int × Int × Int × Int × Int × Int → Option γ) (k : Int × Int → Option γ) (a0 : Int) (a1 : Int) (b0 : Int) (b1 : Int) : Option γ := let t1 := wide_noughts a0 a1; let t2 := wide_down.ok a0 a1 t1; let t3 := wide_noughts b0 b1; let t4 := if t3 < t1 then t3 else t1; let t5 := wide_down a0 a1 t1; cong_common.c0 k0 k a0 a1 b0 b1 t1 t2 t3 t4 t5
def cong_common.L0 (N : Nat)  : Nat → Int × Int × Int × Int × Int × Int × Int → Option (Int × Int)
  | 0, _ => none
  | m + 1, q => cong_common.l0.c (cong_common.L0 N m) some (q).1 (q).2.1 (q).2.2.1 (q).2.2.2.1 (q).2.2.2.2.1 (q).2.2.2.2.2.1 (q).2.2.2.2.2.2
def cong_common.o (N : Nat) (a0 : Int) (a1 : Int) (b0 : Int) (b1 : Int) : Option (Int × Int) := cong_common.c (cong_common.L0 N  N) some a0 a1 b0 b1
noncomputable def cong_common.S0 (N : Nat) : LSum := sumN P G (tab L_wide_less) (cong_common.H0 ) 60 cong_common.B0 N
theorem cong_common.l0.p0 {γ δ : Type} (f : γ → δ) (k0 : Int × Int × Int × Int × Int × Int × Int → Option γ) (k : Int × Int → Option γ) (s5 : Int) (b0_0 : Int) (b0_1 : Int) (b1_0 : Int) (b1_1 : Int) (b2_0 : Int) (b2_1 : Int) (t1 : Int) (t2 : Bool) (t3 : Int × Int) (t4 : Bool) (t5 : Int) (t6 : Int) (t7 : Int) (t8 : Int) (t9 : Int × Int) (t10 : Bool) (t11 : Int × Int) : cong_common.l0.c0 (fun q => (k0 q).map f) (fun q => (k q).map f) s5 b0_0 b0_1 b1_0 b1_1 b2_0 b2_1 t1 t2 t3 t4 t5 t6 t7 t8 t9 t10 t11 = (cong_common.l0.c0 k0 k s5 b0_0 b0_1 b1_0 b1_1 b2_0 b2_1 t1 t2 t3 t4 t5 t6 t7 t8 t9 t10 t11).map f := by
  unfold cong_common.l0.c0; (repeat' (first | (apply pm f) | (exact rfl)))
theorem cong_common.l0.p {γ δ : Type} (f : γ → δ) (k0 : Int × Int × Int × Int × Int × Int × Int → Option γ) (k : Int × Int → Option γ) (s5 : Int) (b0_0 : Int) (b0_1 : Int) (b1_0 : Int) (b1_1 : Int) (b2_0 : Int) (b2_1 : Int) : cong_common.l0.c (fun q => (k0 q).map f) (fun q => (k q).map f) s5 b0_0 b0_1 b1_0 b1_1 b2_0 b2_1 = (cong_common.l0.c k0 k s5 b0_0 b0_1 b1_0 b1_1 b2_0 b2_1).map f :=
  let t1 := wide_noughts b1_0 b1_1; let t2 := wide_down.ok b1_0 b1_1 t1; let t3 := wide_down b1_0 b1_1 t1; let t4 := wide_below t3.fst t3.snd b0_0 b0_1; let t5 := bif t4 then t3.fst else b0_0; let t6 := bif t4 then t3.snd else b0_1; let t7 := bif t4 then b0_0 else t3.fst; let t8 := bif t4 then b0_1 else t3.snd; let t9 := wide_less t7 t8 t5 t6; let t10 := wide_up.ok b0_0 b0_1 s5; let t11 := wide_up b0_0 b0_1 s5; cong_common.l0.p0 f k0 k s5 b0_0 b0_1 b1_0 b1_1 b2_0 b2_1 t1 t2 t3 t4 t5 t6 t7 t8 t9 t10 t11
theorem cong_common.p0 {γ δ : Type} (f : γ → δ) (k0 : Int × Int × Int × Int × Int × Int × Int → Option γ) (k : Int × Int → Option γ) (a0 : Int) (a1 : Int) (b0 : Int) (b1 : Int) (t1 : Int) (t2 : Bool) (t3 : Int) (t4 : Int) (t5 : Int × Int) : cong_common.c0 (fun q => (k0 q).map f) (fun q => (k q).map f) a0 a1 b0 b1 t1 t2 t3 t4 t5 = (cong_common.c0 k0 k a0 a1 b0 b1 t1 t2 t3 t4 t5).map f := by
  unfold cong_common.c0; (repeat' (first | (apply pm f) | (exact rfl)))
theorem cong_common.p {γ δ : Type} (f : γ → δ) (k0 : Int × Int × Int × Int × Int × Int × Int → Option γ) (k : Int × Int → Option γ) (a0 : Int) (a1 : Int) (b0 : Int) (b1 : Int) : cong_common.c (fun q => (k0 q).map f) (fun q => (k q).map f) a0 a1 b0 b1 = (cong_common.c k0 k a0 a1 b0 b1).map f :=
  let t1 := wide_noughts a0 a1; let t2 := wide_down.ok a0 a1 t1; let t3 := wide_noughts b0 b1; let t4 := if t3 < t1 then t3 else t1; let t5 := wide_down a0 a1 t1; cong_common.p0 f k0 k a0 a1 b0 b1 t1 t2 t3 t4 t5
theorem cong_common.S0.ok (N : Nat) : LoopsOK P G (cong_common.H0 ).sums cong_common.B0 := by
  refine LoopsOK_code fun i hi F hF => ?_
  have hlen : (loopsOf cong_common.B0).length = 0 := by kernel_rfl
  rw [hlen] at hi
  omega

theorem cong_common.S0.snd (N : Nat) : SoundL P G cong_common.B0 (cong_common.S0 N) := sumN_sound C.mixed C.names wide_less.t (cong_common.S0.ok N) N
theorem cong_common.l0.r (F0 G0 : LSum) (s5 : Int) (b0_0 : Int) (b0_1 : Int) (b1_0 : Int) (b1_1 : Int) (b2_0 : Int) (b2_1 : Int) : ex P G (tab L_wide_less) (cong_common.H0 ) 60 cong_common.B0 (cong_common.e0 (s5, b0_0, b0_1, b1_0, b1_1, b2_0, b2_1)) (roundK (cong_common.H0 ) cong_common.B0 G0 (cong_common.K0 F0)) = cong_common.l0.c (fun q => G0.run (cong_common.e0 q) (cong_common.K0 F0)) (fun q => some (cong_common.val q)) s5 b0_0 b0_1 b1_0 b1_1 b2_0 b2_1 := by kernel_rfl
theorem cong_common.r (F0 : LSum) (a0 : Int) (a1 : Int) (b0 : Int) (b1 : Int) : runF P G (tab L_wide_less) (cong_common.H F0) 60 Tryd.f76 [.agg #[.int .u64 a0, .int .u64 a1], .agg #[.int .u64 b0, .int .u64 b1]] = cong_common.c (fun q => F0.run (cong_common.e0 q) (cong_common.K0 F0)) (fun q => some (cong_common.val q)) a0 a1 b0 b1 := by kernel_rfl
theorem cong_common.L0.ok (N : Nat) (F0 : LSum)   : ∀ m q, (sumN P G (tab L_wide_less) (cong_common.H0 ) 60 cong_common.B0 m).run (cong_common.e0 q) (cong_common.K0 F0) = (cong_common.L0 N  m q).map cong_common.val
  | 0, q => rfl
  | m + 1, q => by
    have ih := cong_common.L0.ok N F0   m
    refine (sumN_run (n := m) rfl).trans ((cong_common.l0.r F0 (sumN P G (tab L_wide_less) (cong_common.H0 ) 60 cong_common.B0 m) (q).1 (q).2.1 (q).2.2.1 (q).2.2.2.1 (q).2.2.2.2.1 (q).2.2.2.2.2.1 (q).2.2.2.2.2.2).trans ?_)
    refine Eq.trans ?_ (cong_common.l0.p cong_common.val (cong_common.L0 N m) some (q).1 (q).2.1 (q).2.2.1 (q).2.2.2.1 (q).2.2.2.2.1 (q).2.2.2.2.2.1 (q).2.2.2.2.2.2)
    have e0 : (fun q => (sumN P G (tab L_wide_less) (cong_common.H0 ) 60 cong_common.B0 m).run (cong_common.e0 q) (cong_common.K0 F0)) = (fun q => ((cong_common.L0 N m) q).map cong_common.val) := funext ih
    rw [e0]; rfl

theorem cong_common.q (N : Nat) (a0 : Int) (a1 : Int) (b0 : Int) (b1 : Int) : runF P G (tab L_wide_less) (cong_common.H (cong_common.S0 N)) 60 Tryd.f76 [.agg #[.int .u64 a0, .int .u64 a1], .agg #[.int .u64 b0, .int .u64 b1]] = (cong_common.o N a0 a1 b0 b1).map cong_common.val := by
  have hk0 := cong_common.L0.ok N (cong_common.S0 N)   N
  refine (cong_common.r (cong_common.S0 N) a0 a1 b0 b1).trans ?_
  refine Eq.trans ?_ (cong_common.p cong_common.val (cong_common.L0 N  N) some a0 a1 b0 b1)
  have e0 : (fun q => (cong_common.S0 N).run (cong_common.e0 q) (cong_common.K0 (cong_common.S0 N))) = (fun q => ((cong_common.L0 N  N) q).map cong_common.val) := funext hk0
  rw [e0]; rfl

theorem cong_common.lok (N : Nat) : LoopsOK P G (cong_common.H (cong_common.S0 N)).sums (fbody Tryd.f76) := by
  refine LoopsOK_code fun i hi F hF => ?_
  have hlen : (loopsOf (fbody Tryd.f76)).length = 1 := by kernel_rfl
  rw [hlen] at hi
  match i, hi with
  | 0, _ => exact soundAt (B' := cong_common.B0) (by kernel_rfl) (by kernel_rfl) (cong_common.S0.snd N) hF
  | _ + 1, h => omega

def cong_common (a0 : Int) (a1 : Int) (b0 : Int) (b1 : Int) : Int × Int := hide ((cong_common.o (a0.toNat * 18446744073709551616 + a1.toNat + b0.toNat * 18446744073709551616 + b1.toNat + 2) a0 a1 b0 b1).getD (0, 0))
def cong_common.g (a0 : Int) (a1 : Int) (b0 : Int) (b1 : Int) : Bool := hide (cong_common.o (a0.toNat * 18446744073709551616 + a1.toNat + b0.toNat * 18446744073709551616 + b1.toNat + 2) a0 a1 b0 b1).isSome
theorem cong_common.s (a0 : Int) (a1 : Int) (b0 : Int) (b1 : Int) (h : cong_common.g a0 a1 b0 b1 = true) : cong_common.o (a0.toNat * 18446744073709551616 + a1.toNat + b0.toNat * 18446744073709551616 + b1.toNat + 2) a0 a1 b0 b1 = some (cong_common a0 a1 b0 b1) := by
  unfold cong_common.g at h; unfold cong_common; simp only [hide_eq] at h ⊢; revert h; cases cong_common.o (a0.toNat * 18446744073709551616 + a1.toNat + b0.toNat * 18446744073709551616 + b1.toNat + 2) a0 a1 b0 b1 <;> simp
def cong_common.F : FV := mkF (cP (cA (cP (cI .u64) (cP (cI .u64) cU))) (cP (cA (cP (cI .u64) (cP (cI .u64) cU))) cU)) (fun | ((a0, (a1, ())), ((b0, (b1, ())), ())) => cong_common.g a0 a1 b0 b1) (fun | ((a0, (a1, ())), ((b0, (b1, ())), ())) => cong_common.val (cong_common a0 a1 b0 b1))
def L_cong_common : TL := (76, cong_common.F) :: L_wide_less
theorem cong_common.t : TabOK P G (tab L_cong_common) :=
  TabOK_mkH C wide_less.t Tryd.func76 (by kernel_rfl) (fun | ((a0, (a1, ())), ((b0, (b1, ())), ())) => cong_common.H (cong_common.S0 (a0.toNat * 18446744073709551616 + a1.toNat + b0.toNat * 18446744073709551616 + b1.toNat + 2))) (by rintro ⟨⟨a0, ⟨a1, ⟨⟩⟩⟩, ⟨⟨b0, ⟨b1, ⟨⟩⟩⟩, ⟨⟩⟩⟩; exact cong_common.lok _) 60 (by
    rintro ⟨⟨a0, ⟨a1, ⟨⟩⟩⟩, ⟨⟨b0, ⟨b1, ⟨⟩⟩⟩, ⟨⟩⟩⟩ h
    exact (cong_common.q (a0.toNat * 18446744073709551616 + a1.toNat + b0.toNat * 18446744073709551616 + b1.toNat + 2) a0 a1 b0 b1).trans (congrArg (Option.map cong_common.val) (cong_common.s a0 a1 b0 b1 h)))

def cong_Mul.c0 {γ : Type} (n : γ) (k : Int × Int → γ) (a0 : Int) (a1 : Int) (b0 : Int) (b1 : Int) (c : Bool) (t1 : Int × Int) (t2 : Bool) (t3 : Int × Int) (t4 : Bool) (t5 : Int) (t6 : Int) (t7 : Int) (t8 : Int × Int) (t9 : Int) (t10 : Int × Int) (t11 : Int) (t12 : Int × Int) (t13 : Bool) (t14 : Int × Int) (t15 : Int × Int) (t16 : Bool) (t17 : Int × Int) (t18 : Int) (t19 : Int) (t20 : Int) (t21 : Int) (t22 : Int) (t23 : Int) (t24 : Int) (t25 : Bool) (t26 : Int) (t27 : Int) (t28 : Int) (t29 : Int) (t30 : Int) (t31 : Bool) (t32 : Int) : γ := bif t2
  then bif t4
   then k (t8.fst, t8.snd)
   else bif t1.fst == 0 && (t1.snd == 0 && true)
    then k (0, 0)
    else bif t3.fst == 0 && (t3.snd == 0 && true)
     then k (0, 0)
     else bif t13
      then bif t16
       then bif decide (t17.fst > 0)
        then bif !decide (t19 < 0)
         then bif t25
          then k (t22, t26)
          else n
         else n
        else bif t31
         then k (t28, t32)
         else n
       else n
      else n
  else bif t1.fst == 0 && (t1.snd == 0 && true)
   then k (0, 0)
   else bif t3.fst == 0 && (t3.snd == 0 && true)
    then k (0, 0)
    else bif t13
     then bif t16
      then bif decide (t17.fst > 0)
       then bif !decide (t19 < 0)
        then bif t25
         then k (t22, t26)
         else n
        else n
       else bif t31
        then k (t28, t32)
        else n
      else n
     else n
def cong_Mul.c {γ : Type} (n : γ) (k : Int × Int → γ) (a0 : Int) (a1 : Int) (b0 : Int) (b1 : Int) (c : Bool) : γ := let t1 := cong_Norm a0 a1; let t2 := cong_alone t1.fst t1.snd; let t3 := cong_Norm b0 b1; let t4 := cong_alone t3.fst t3.snd; let t5 := IntKind.i64.wrap t1.snd; let t6 := IntKind.i64.wrap t3.snd; let t7 := word_Mul t5 t6; let t8 := cong_Const t7; let t9 := cong_amount t1.fst t1.snd; let t10 := cong_product t9 t3.fst; let t11 := cong_amount t3.fst t3.snd; let t12 := cong_product t11 t1.fst; let t13 := cong_common.g t10.fst t10.snd t12.fst t12.snd; let t14 := cong_product t1.fst t3.fst; let t15 := cong_common t10.fst t10.snd t12.fst t12.snd; let t16 := cong_common.g t14.fst t14.snd t15.fst t15.snd; let t17 := cong_common t14.fst t14.snd t15.fst t15.snd; let t18 := wide_noughts t17.fst t17.snd; let t19 := if t18 < 63 then t18 else 63; let t20 := IntKind.u64.wrap (1 * 2 ^ min (if wide_noughts (cong_common (cong_product (cong_Norm a0 a1).fst (cong_Norm b0 b1).fst).fst (cong_product (cong_Norm a0 a1).fst (cong_Norm b0 b1).fst).snd (cong_common (cong_product (cong_amount (cong_Norm a0 a1).fst (cong_Norm a0 a1).snd) (cong_Norm b0 b1).fst).fst (cong_product (cong_amount (cong_Norm a0 a1).fst (cong_Norm a0 a1).snd) (cong_Norm b0 b1).fst).snd (cong_product (cong_amount (cong_Norm b0 b1).fst (cong_Norm b0 b1).snd) (cong_Norm a0 a1).fst).fst (cong_product (cong_amount (cong_Norm b0 b1).fst (cong_Norm b0 b1).snd) (cong_Norm a0 a1).fst).snd).fst (cong_common (cong_product (cong_amount (cong_Norm a0 a1).fst (cong_Norm a0 a1).snd) (cong_Norm b0 b1).fst).fst (cong_product (cong_amount (cong_Norm a0 a1).fst (cong_Norm a0 a1).snd) (cong_Norm b0 b1).fst).snd (cong_product (cong_amount (cong_Norm b0 b1).fst (cong_Norm b0 b1).snd) (cong_Norm a0 a1).fst).fst (cong_product (cong_amount (cong_Norm b0 b1).fst (cong_Norm b0 b1).snd) (cong_Norm a0 a1).fst).snd).snd).fst (cong_common (cong_product (cong_Norm a0 a1).fst (cong_Norm b0 b1).fst).fst (cong_product (cong_Norm a0 a1).fst (cong_Norm b0 b1).fst).snd (cong_common (cong_product (cong_amount (cong_Norm a0 a1).fst (cong_Norm a0 a1).snd) (cong_Norm b0 b1).fst).fst (cong_product (cong_amount (cong_Norm a0 a1).fst (cong_Norm a0 a1).snd) (cong_Norm b0 b1).fst).snd (cong_product (cong_amount (cong_Norm b0 b1).fst (cong_Norm b0 b1).snd) (cong_Norm a0 a1).fst).fst (cong_product (cong_amount (cong_Norm b0 b1).fst (cong_Norm b0 b1).snd) (cong_Norm a0 a1).fst).snd).fst (cong_common (cong_product (cong_amount (cong_Norm a0 a1).fst (cong_Norm a0 a1).snd) (cong_Norm b0 b1).fst).fst (cong_product (cong_amount (cong_Norm a0 a1).fst (cong_Norm a0 a1).snd) (cong_Norm b0 b1).fst).snd (cong_product (cong_amount (cong_Norm b0 b1).fst (cong_Norm b0 b1).snd) (cong_Norm a0 a1).fst).fst (cong_product (cong_amount (cong_Norm b0 b1).fst (cong_Norm b0 b1).snd) (cong_Norm a0 a1).fst).snd).snd).snd < 63 then wide_noughts (cong_common (cong_product (cong_Norm a0 a1).fst (cong_Norm b0 b1).fst).fst (cong_product (cong_Norm a0 a1).fst (cong_Norm b0 b1).fst).snd (cong_common (cong_product (cong_amount (cong_Norm a0 a1).fst (cong_Norm a0 a1).snd) (cong_Norm b0 b1).fst).fst (cong_product (cong_amount (cong_Norm a0 a1).fst (cong_Norm a0 a1).snd) (cong_Norm b0 b1).fst).snd (cong_product (cong_amount (cong_Norm b0 b1).fst (cong_Norm b0 b1).snd) (cong_Norm a0 a1).fst).fst (cong_product (cong_amount (cong_Norm b0 b1).fst (cong_Norm b0 b1).snd) (cong_Norm a0 a1).fst).snd).fst (cong_common (cong_product (cong_amount (cong_Norm a0 a1).fst (cong_Norm a0 a1).snd) (cong_Norm b0 b1).fst).fst (cong_product (cong_amount (cong_Norm a0 a1).fst (cong_Norm a0 a1).snd) (cong_Norm b0 b1).fst).snd (cong_product (cong_amount (cong_Norm b0 b1).fst (cong_Norm b0 b1).snd) (cong_Norm a0 a1).fst).fst (cong_product (cong_amount (cong_Norm b0 b1).fst (cong_Norm b0 b1).snd) (cong_Norm a0 a1).fst).snd).snd).fst (cong_common (cong_product (cong_Norm a0 a1).fst (cong_Norm b0 b1).fst).fst (cong_product (cong_Norm a0 a1).fst (cong_Norm b0 b1).fst).snd (cong_common (cong_product (cong_amount (cong_Norm a0 a1).fst (cong_Norm a0 a1).snd) (cong_Norm b0 b1).fst).fst (cong_product (cong_amount (cong_Norm a0 a1).fst (cong_Norm a0 a1).snd) (cong_Norm b0 b1).fst).snd (cong_product (cong_amount (cong_Norm b0 b1).fst (cong_Norm b0 b1).snd) (cong_Norm a0 a1).fst).fst (cong_product (cong_amount (cong_Norm b0 b1).fst (cong_Norm b0 b1).snd) (cong_Norm a0 a1).fst).snd).fst (cong_common (cong_product (cong_amount (cong_Norm a0 a1).fst (cong_Norm a0 a1).snd) (cong_Norm b0 b1).fst).fst (cong_product (cong_amount (cong_Norm a0 a1).fst (cong_Norm a0 a1).snd) (cong_Norm b0 b1).fst).snd (cong_product (cong_amount (cong_Norm b0 b1).fst (cong_Norm b0 b1).snd) (cong_Norm a0 a1).fst).fst (cong_product (cong_amount (cong_Norm b0 b1).fst (cong_Norm b0 b1).snd) (cong_Norm a0 a1).fst).snd).snd).snd else 63).toNat IntKind.u64.bits); let t21 := cong_two t20; let t22 := bif !false then t21 else t20; let t23 := cong_rest t1.fst t1.snd t22; let t24 := cong_rest t3.fst t3.snd t22; let t25 := cong_times.ok t23 t24 t22; let t26 := cong_times t23 t24 t22; let t27 := cong_two t17.snd; let t28 := bif !c then t27 else t17.snd; let t29 := cong_rest t1.fst t1.snd t28; let t30 := cong_rest t3.fst t3.snd t28; let t31 := cong_times.ok t29 t30 t28; let t32 := cong_times t29 t30 t28; cong_Mul.c0 n k a0 a1 b0 b1 c t1 t2 t3 t4 t5 t6 t7 t8 t9 t10 t11 t12 t13 t14 t15 t16 t17 t18 t19 t20 t21 t22 t23 t24 t25 t26 t27 t28 t29 t30 t31 t32
def cong_Mul.ok (a0 : Int) (a1 : Int) (b0 : Int) (b1 : Int) (c : Bool) : Bool := cong_Mul.c false (fun _ => true) a0 a1 b0 b1 c
def cong_Mul (a0 : Int) (a1 : Int) (b0 : Int) (b1 : Int) (c : Bool) : Int × Int := cong_Mul.c (0, 0) id a0 a1 b0 b1 c
def cong_Mul.F : FV := mkF (cP (cA (cP (cI .u64) (cP (cI .u64) cU))) (cP (cA (cP (cI .u64) (cP (cI .u64) cU))) (cP cB cU))) (fun | ((a0, (a1, ())), ((b0, (b1, ())), (c, ()))) => cong_Mul.ok a0 a1 b0 b1 c) (fun | ((a0, (a1, ())), ((b0, (b1, ())), (c, ()))) => .agg #[.int .u64 (cong_Mul a0 a1 b0 b1 c).1, .int .u64 (cong_Mul a0 a1 b0 b1 c).2])
def L_cong_Mul : TL := (32, cong_Mul.F) :: L_cong_common
theorem cong_Mul.p0 {γ : Type} (k : Int × Int → γ) (a0 : Int) (a1 : Int) (b0 : Int) (b1 : Int) (c : Bool) (t1 : Int × Int) (t2 : Bool) (t3 : Int × Int) (t4 : Bool) (t5 : Int) (t6 : Int) (t7 : Int) (t8 : Int × Int) (t9 : Int) (t10 : Int × Int) (t11 : Int) (t12 : Int × Int) (t13 : Bool) (t14 : Int × Int) (t15 : Int × Int) (t16 : Bool) (t17 : Int × Int) (t18 : Int) (t19 : Int) (t20 : Int) (t21 : Int) (t22 : Int) (t23 : Int) (t24 : Int) (t25 : Bool) (t26 : Int) (t27 : Int) (t28 : Int) (t29 : Int) (t30 : Int) (t31 : Bool) (t32 : Int) : cong_Mul.c0 false (fun _ => true) a0 a1 b0 b1 c t1 t2 t3 t4 t5 t6 t7 t8 t9 t10 t11 t12 t13 t14 t15 t16 t17 t18 t19 t20 t21 t22 t23 t24 t25 t26 t27 t28 t29 t30 t31 t32 = true → cong_Mul.c0 none (fun q => some (k q)) a0 a1 b0 b1 c t1 t2 t3 t4 t5 t6 t7 t8 t9 t10 t11 t12 t13 t14 t15 t16 t17 t18 t19 t20 t21 t22 t23 t24 t25 t26 t27 t28 t29 t30 t31 t32 = some (k (cong_Mul.c0 (0, 0) id a0 a1 b0 b1 c t1 t2 t3 t4 t5 t6 t7 t8 t9 t10 t11 t12 t13 t14 t15 t16 t17 t18 t19 t20 t21 t22 t23 t24 t25 t26 t27 t28 t29 t30 t31 t32)) := by
  unfold cong_Mul.c0; (repeat' (first | (apply pn k) | (exact pn_none _ _) | (exact pn_leaf k _)))
theorem cong_Mul.p {γ : Type} (k : Int × Int → γ) (a0 : Int) (a1 : Int) (b0 : Int) (b1 : Int) (c : Bool) (h : cong_Mul.ok a0 a1 b0 b1 c = true) : cong_Mul.c none (fun q => some (k q)) a0 a1 b0 b1 c = some (k (cong_Mul a0 a1 b0 b1 c)) :=
  let t1 := cong_Norm a0 a1; let t2 := cong_alone t1.fst t1.snd; let t3 := cong_Norm b0 b1; let t4 := cong_alone t3.fst t3.snd; let t5 := IntKind.i64.wrap t1.snd; let t6 := IntKind.i64.wrap t3.snd; let t7 := word_Mul t5 t6; let t8 := cong_Const t7; let t9 := cong_amount t1.fst t1.snd; let t10 := cong_product t9 t3.fst; let t11 := cong_amount t3.fst t3.snd; let t12 := cong_product t11 t1.fst; let t13 := cong_common.g t10.fst t10.snd t12.fst t12.snd; let t14 := cong_product t1.fst t3.fst; let t15 := cong_common t10.fst t10.snd t12.fst t12.snd; let t16 := cong_common.g t14.fst t14.snd t15.fst t15.snd; let t17 := cong_common t14.fst t14.snd t15.fst t15.snd; let t18 := wide_noughts t17.fst t17.snd; let t19 := if t18 < 63 then t18 else 63; let t20 := IntKind.u64.wrap (1 * 2 ^ min (if wide_noughts (cong_common (cong_product (cong_Norm a0 a1).fst (cong_Norm b0 b1).fst).fst (cong_product (cong_Norm a0 a1).fst (cong_Norm b0 b1).fst).snd (cong_common (cong_product (cong_amount (cong_Norm a0 a1).fst (cong_Norm a0 a1).snd) (cong_Norm b0 b1).fst).fst (cong_product (cong_amount (cong_Norm a0 a1).fst (cong_Norm a0 a1).snd) (cong_Norm b0 b1).fst).snd (cong_product (cong_amount (cong_Norm b0 b1).fst (cong_Norm b0 b1).snd) (cong_Norm a0 a1).fst).fst (cong_product (cong_amount (cong_Norm b0 b1).fst (cong_Norm b0 b1).snd) (cong_Norm a0 a1).fst).snd).fst (cong_common (cong_product (cong_amount (cong_Norm a0 a1).fst (cong_Norm a0 a1).snd) (cong_Norm b0 b1).fst).fst (cong_product (cong_amount (cong_Norm a0 a1).fst (cong_Norm a0 a1).snd) (cong_Norm b0 b1).fst).snd (cong_product (cong_amount (cong_Norm b0 b1).fst (cong_Norm b0 b1).snd) (cong_Norm a0 a1).fst).fst (cong_product (cong_amount (cong_Norm b0 b1).fst (cong_Norm b0 b1).snd) (cong_Norm a0 a1).fst).snd).snd).fst (cong_common (cong_product (cong_Norm a0 a1).fst (cong_Norm b0 b1).fst).fst (cong_product (cong_Norm a0 a1).fst (cong_Norm b0 b1).fst).snd (cong_common (cong_product (cong_amount (cong_Norm a0 a1).fst (cong_Norm a0 a1).snd) (cong_Norm b0 b1).fst).fst (cong_product (cong_amount (cong_Norm a0 a1).fst (cong_Norm a0 a1).snd) (cong_Norm b0 b1).fst).snd (cong_product (cong_amount (cong_Norm b0 b1).fst (cong_Norm b0 b1).snd) (cong_Norm a0 a1).fst).fst (cong_product (cong_amount (cong_Norm b0 b1).fst (cong_Norm b0 b1).snd) (cong_Norm a0 a1).fst).snd).fst (cong_common (cong_product (cong_amount (cong_Norm a0 a1).fst (cong_Norm a0 a1).snd) (cong_Norm b0 b1).fst).fst (cong_product (cong_amount (cong_Norm a0 a1).fst (cong_Norm a0 a1).snd) (cong_Norm b0 b1).fst).snd (cong_product (cong_amount (cong_Norm b0 b1).fst (cong_Norm b0 b1).snd) (cong_Norm a0 a1).fst).fst (cong_product (cong_amount (cong_Norm b0 b1).fst (cong_Norm b0 b1).snd) (cong_Norm a0 a1).fst).snd).snd).snd < 63 then wide_noughts (cong_common (cong_product (cong_Norm a0 a1).fst (cong_Norm b0 b1).fst).fst (cong_product (cong_Norm a0 a1).fst (cong_Norm b0 b1).fst).snd (cong_common (cong_product (cong_amount (cong_Norm a0 a1).fst (cong_Norm a0 a1).snd) (cong_Norm b0 b1).fst).fst (cong_product (cong_amount (cong_Norm a0 a1).fst (cong_Norm a0 a1).snd) (cong_Norm b0 b1).fst).snd (cong_product (cong_amount (cong_Norm b0 b1).fst (cong_Norm b0 b1).snd) (cong_Norm a0 a1).fst).fst (cong_product (cong_amount (cong_Norm b0 b1).fst (cong_Norm b0 b1).snd) (cong_Norm a0 a1).fst).snd).fst (cong_common (cong_product (cong_amount (cong_Norm a0 a1).fst (cong_Norm a0 a1).snd) (cong_Norm b0 b1).fst).fst (cong_product (cong_amount (cong_Norm a0 a1).fst (cong_Norm a0 a1).snd) (cong_Norm b0 b1).fst).snd (cong_product (cong_amount (cong_Norm b0 b1).fst (cong_Norm b0 b1).snd) (cong_Norm a0 a1).fst).fst (cong_product (cong_amount (cong_Norm b0 b1).fst (cong_Norm b0 b1).snd) (cong_Norm a0 a1).fst).snd).snd).fst (cong_common (cong_product (cong_Norm a0 a1).fst (cong_Norm b0 b1).fst).fst (cong_product (cong_Norm a0 a1).fst (cong_Norm b0 b1).fst).snd (cong_common (cong_product (cong_amount (cong_Norm a0 a1).fst (cong_Norm a0 a1).snd) (cong_Norm b0 b1).fst).fst (cong_product (cong_amount (cong_Norm a0 a1).fst (cong_Norm a0 a1).snd) (cong_Norm b0 b1).fst).snd (cong_product (cong_amount (cong_Norm b0 b1).fst (cong_Norm b0 b1).snd) (cong_Norm a0 a1).fst).fst (cong_product (cong_amount (cong_Norm b0 b1).fst (cong_Norm b0 b1).snd) (cong_Norm a0 a1).fst).snd).fst (cong_common (cong_product (cong_amount (cong_Norm a0 a1).fst (cong_Norm a0 a1).snd) (cong_Norm b0 b1).fst).fst (cong_product (cong_amount (cong_Norm a0 a1).fst (cong_Norm a0 a1).snd) (cong_Norm b0 b1).fst).snd (cong_product (cong_amount (cong_Norm b0 b1).fst (cong_Norm b0 b1).snd) (cong_Norm a0 a1).fst).fst (cong_product (cong_amount (cong_Norm b0 b1).fst (cong_Norm b0 b1).snd) (cong_Norm a0 a1).fst).snd).snd).snd else 63).toNat IntKind.u64.bits); let t21 := cong_two t20; let t22 := bif !false then t21 else t20; let t23 := cong_rest t1.fst t1.snd t22; let t24 := cong_rest t3.fst t3.snd t22; let t25 := cong_times.ok t23 t24 t22; let t26 := cong_times t23 t24 t22; let t27 := cong_two t17.snd; let t28 := bif !c then t27 else t17.snd; let t29 := cong_rest t1.fst t1.snd t28; let t30 := cong_rest t3.fst t3.snd t28; let t31 := cong_times.ok t29 t30 t28; let t32 := cong_times t29 t30 t28; cong_Mul.p0 k a0 a1 b0 b1 c t1 t2 t3 t4 t5 t6 t7 t8 t9 t10 t11 t12 t13 t14 t15 t16 t17 t18 t19 t20 t21 t22 t23 t24 t25 t26 t27 t28 t29 t30 t31 t32 h
theorem cong_Mul.r (a0 : Int) (a1 : Int) (b0 : Int) (b1 : Int) (c : Bool) : runF P G (tab L_cong_common) { merge := true } 60 Tryd.f32 [.agg #[.int .u64 a0, .int .u64 a1], .agg #[.int .u64 b0, .int .u64 b1], .bool c] = cong_Mul.c none (fun q => some (.agg #[.int .u64 (q).1, .int .u64 (q).2] : Value)) a0 a1 b0 b1 c := by kernel_rfl
theorem cong_Mul.t : TabOK P G (tab L_cong_Mul) :=
  TabOK_mk C cong_common.t Tryd.func32 (by kernel_rfl) true 60 (by
    rintro ⟨⟨a0, ⟨a1, ⟨⟩⟩⟩, ⟨⟨b0, ⟨b1, ⟨⟩⟩⟩, ⟨c, ⟨⟩⟩⟩⟩ h
    exact (cong_Mul.r a0 a1 b0 b1 c).trans (cong_Mul.p (fun q => (.agg #[.int .u64 (q).1, .int .u64 (q).2] : Value)) a0 a1 b0 b1 c h))

def cong_Div.c0 {γ : Type} (n : γ) (k : Int × Int → γ) (a0 : Int) (a1 : Int) (b0 : Int) (b1 : Int) (t1 : Int × Int) (t2 : Bool) (t3 : Int) (t4 : Int × Int) (t5 : Bool) (t6 : Int) (t7 : Int × Bool) (t8 : Int × Int) (t9 : Int) (t10 : Int) (t11 : Int) (t12 : Int) (t13 : Int) (t14 : Int) (t15 : Int) (t16 : Int) : γ := bif !t2
  then k (1, 0)
  else bif t3 == 0
   then k (1, 0)
   else bif t5
    then k (t8.fst, t8.snd)
    else bif t3 == -1
     then k (1, 0)
     else bif !decide (t12 = 0)
      then bif t4.fst.tmod t12 != 0
       then k (1, 0)
       else bif !decide (t12 = 0)
        then bif t4.snd.tmod t12 != 0
         then k (1, 0)
         else bif !decide (t12 = 0)
          then bif !decide (t12 = 0)
           then bif true && (true && (true && (true && (!decide (t13 = 0) && (true && true))))) && true || bif decide (t3 < 0) then true && (true && (true && (true && (!decide (t13 = 0) && (true && true))))) else true
            then k (t13, t16)
            else n
           else n
          else n
        else n
      else n
def cong_Div.c {γ : Type} (n : γ) (k : Int × Int → γ) (a0 : Int) (a1 : Int) (b0 : Int) (b1 : Int) : γ := let t1 := cong_Norm b0 b1; let t2 := cong_alone t1.fst t1.snd; let t3 := IntKind.i64.wrap t1.snd; let t4 := cong_Norm a0 a1; let t5 := cong_alone t4.fst t4.snd; let t6 := IntKind.i64.wrap t4.snd; let t7 := word_Div t6 t3; let t8 := cong_Const t7.fst; let t9 := IntKind.i64.wrap (0 - t3); let t10 := if t9 > t3 then t9 else t3; let t11 := IntKind.u64.wrap t10; let t12 := bif t3 == -9223372036854775808 then 9223372036854775808 else t11; let t13 := IntKind.u64.wrap (t4.fst.tdiv t12); let t14 := IntKind.u64.wrap (t4.snd.tdiv t12); let t15 := cong_minus 0 t14 t13; let t16 := bif decide (t3 < 0) then t15.tmod t13 else t14; cong_Div.c0 n k a0 a1 b0 b1 t1 t2 t3 t4 t5 t6 t7 t8 t9 t10 t11 t12 t13 t14 t15 t16
def cong_Div.ok (a0 : Int) (a1 : Int) (b0 : Int) (b1 : Int) : Bool := cong_Div.c false (fun _ => true) a0 a1 b0 b1
def cong_Div (a0 : Int) (a1 : Int) (b0 : Int) (b1 : Int) : Int × Int := cong_Div.c (0, 0) id a0 a1 b0 b1
def cong_Div.F : FV := mkF (cP (cA (cP (cI .u64) (cP (cI .u64) cU))) (cP (cA (cP (cI .u64) (cP (cI .u64) cU))) cU)) (fun | ((a0, (a1, ())), ((b0, (b1, ())), ())) => cong_Div.ok a0 a1 b0 b1) (fun | ((a0, (a1, ())), ((b0, (b1, ())), ())) => .agg #[.int .u64 (cong_Div a0 a1 b0 b1).1, .int .u64 (cong_Div a0 a1 b0 b1).2])
def L_cong_Div : TL := (34, cong_Div.F) :: L_cong_Mul
theorem cong_Div.p0 {γ : Type} (k : Int × Int → γ) (a0 : Int) (a1 : Int) (b0 : Int) (b1 : Int) (t1 : Int × Int) (t2 : Bool) (t3 : Int) (t4 : Int × Int) (t5 : Bool) (t6 : Int) (t7 : Int × Bool) (t8 : Int × Int) (t9 : Int) (t10 : Int) (t11 : Int) (t12 : Int) (t13 : Int) (t14 : Int) (t15 : Int) (t16 : Int) : cong_Div.c0 false (fun _ => true) a0 a1 b0 b1 t1 t2 t3 t4 t5 t6 t7 t8 t9 t10 t11 t12 t13 t14 t15 t16 = true → cong_Div.c0 none (fun q => some (k q)) a0 a1 b0 b1 t1 t2 t3 t4 t5 t6 t7 t8 t9 t10 t11 t12 t13 t14 t15 t16 = some (k (cong_Div.c0 (0, 0) id a0 a1 b0 b1 t1 t2 t3 t4 t5 t6 t7 t8 t9 t10 t11 t12 t13 t14 t15 t16)) := by
  unfold cong_Div.c0; (repeat' (first | (apply pn k) | (exact pn_none _ _) | (exact pn_leaf k _)))
theorem cong_Div.p {γ : Type} (k : Int × Int → γ) (a0 : Int) (a1 : Int) (b0 : Int) (b1 : Int) (h : cong_Div.ok a0 a1 b0 b1 = true) : cong_Div.c none (fun q => some (k q)) a0 a1 b0 b1 = some (k (cong_Div a0 a1 b0 b1)) :=
  let t1 := cong_Norm b0 b1; let t2 := cong_alone t1.fst t1.snd; let t3 := IntKind.i64.wrap t1.snd; let t4 := cong_Norm a0 a1; let t5 := cong_alone t4.fst t4.snd; let t6 := IntKind.i64.wrap t4.snd; let t7 := word_Div t6 t3; let t8 := cong_Const t7.fst; let t9 := IntKind.i64.wrap (0 - t3); let t10 := if t9 > t3 then t9 else t3; let t11 := IntKind.u64.wrap t10; let t12 := bif t3 == -9223372036854775808 then 9223372036854775808 else t11; let t13 := IntKind.u64.wrap (t4.fst.tdiv t12); let t14 := IntKind.u64.wrap (t4.snd.tdiv t12); let t15 := cong_minus 0 t14 t13; let t16 := bif decide (t3 < 0) then t15.tmod t13 else t14; cong_Div.p0 k a0 a1 b0 b1 t1 t2 t3 t4 t5 t6 t7 t8 t9 t10 t11 t12 t13 t14 t15 t16 h
theorem cong_Div.r (a0 : Int) (a1 : Int) (b0 : Int) (b1 : Int) : runF P G (tab L_cong_Mul) { merge := true } 60 Tryd.f34 [.agg #[.int .u64 a0, .int .u64 a1], .agg #[.int .u64 b0, .int .u64 b1]] = cong_Div.c none (fun q => some (.agg #[.int .u64 (q).1, .int .u64 (q).2] : Value)) a0 a1 b0 b1 := by kernel_rfl
theorem cong_Div.t : TabOK P G (tab L_cong_Div) :=
  TabOK_mk C cong_Mul.t Tryd.func34 (by kernel_rfl) true 60 (by
    rintro ⟨⟨a0, ⟨a1, ⟨⟩⟩⟩, ⟨⟨b0, ⟨b1, ⟨⟩⟩⟩, ⟨⟩⟩⟩ h
    exact (cong_Div.r a0 a1 b0 b1).trans (cong_Div.p (fun q => (.agg #[.int .u64 (q).1, .int .u64 (q).2] : Value)) a0 a1 b0 b1 h))

def cong_Rem.c0 {γ : Type} (n : γ) (k : Int × Int → γ) (a0 : Int) (a1 : Int) (b0 : Int) (b1 : Int) (t1 : Int × Int) (t2 : Int × Int) (t3 : Bool) (t4 : Bool) (t5 : Int) (t6 : Int) (t7 : Int × Bool) (t8 : Int × Int) (t9 : Bool) (t10 : Int) (t11 : Bool) (t12 : Int) (t13 : Int) (t14 : Int) (t15 : Bool) (t16 : Int) (t17 : Int) (t18 : Bool) (t19 : Int) (t20 : Int) : γ := bif t1.fst == 0 && (t1.snd == 0 && true)
  then k (1, 0)
  else bif t3
   then bif t4
    then k (t8.fst, t8.snd)
    else bif t4
     then bif t9
      then bif t11
       then bif t15
        then k (t16, t17)
        else n
       else n
      else n
     else bif t9
      then bif t11
       then bif t18
        then k (t19, t20)
        else n
       else n
      else n
   else bif t4
    then bif t9
     then bif t11
      then bif t15
       then k (t16, t17)
       else n
      else n
     else n
    else bif t9
     then bif t11
      then bif t18
       then k (t19, t20)
       else n
      else n
     else n
def cong_Rem.c {γ : Type} (n : γ) (k : Int × Int → γ) (a0 : Int) (a1 : Int) (b0 : Int) (b1 : Int) : γ := let t1 := cong_Norm b0 b1; let t2 := cong_Norm a0 a1; let t3 := cong_alone t2.fst t2.snd; let t4 := cong_alone t1.fst t1.snd; let t5 := IntKind.i64.wrap t2.snd; let t6 := IntKind.i64.wrap t1.snd; let t7 := word_Rem t5 t6; let t8 := cong_Const t7.fst; let t9 := word_Gcd.g 0 t2.fst; let t10 := word_Gcd 0 t2.fst; let t11 := word_Gcd.g t10 t1.fst; let t12 := word_Gcd t10 t1.fst; let t13 := IntKind.u64.wrap (0 - t1.snd); let t14 := bif decide (t6 < 0) then t13 else t1.snd; let t15 := word_Gcd.g t12 t14; let t16 := word_Gcd t12 t14; let t17 := cong_rest t2.fst t2.snd t16; let t18 := word_Gcd.g t12 t1.snd; let t19 := word_Gcd t12 t1.snd; let t20 := cong_rest t2.fst t2.snd t19; cong_Rem.c0 n k a0 a1 b0 b1 t1 t2 t3 t4 t5 t6 t7 t8 t9 t10 t11 t12 t13 t14 t15 t16 t17 t18 t19 t20
def cong_Rem.ok (a0 : Int) (a1 : Int) (b0 : Int) (b1 : Int) : Bool := cong_Rem.c false (fun _ => true) a0 a1 b0 b1
def cong_Rem (a0 : Int) (a1 : Int) (b0 : Int) (b1 : Int) : Int × Int := cong_Rem.c (0, 0) id a0 a1 b0 b1
def cong_Rem.F : FV := mkF (cP (cA (cP (cI .u64) (cP (cI .u64) cU))) (cP (cA (cP (cI .u64) (cP (cI .u64) cU))) cU)) (fun | ((a0, (a1, ())), ((b0, (b1, ())), ())) => cong_Rem.ok a0 a1 b0 b1) (fun | ((a0, (a1, ())), ((b0, (b1, ())), ())) => .agg #[.int .u64 (cong_Rem a0 a1 b0 b1).1, .int .u64 (cong_Rem a0 a1 b0 b1).2])
def L_cong_Rem : TL := (36, cong_Rem.F) :: L_cong_Div
theorem cong_Rem.p0 {γ : Type} (k : Int × Int → γ) (a0 : Int) (a1 : Int) (b0 : Int) (b1 : Int) (t1 : Int × Int) (t2 : Int × Int) (t3 : Bool) (t4 : Bool) (t5 : Int) (t6 : Int) (t7 : Int × Bool) (t8 : Int × Int) (t9 : Bool) (t10 : Int) (t11 : Bool) (t12 : Int) (t13 : Int) (t14 : Int) (t15 : Bool) (t16 : Int) (t17 : Int) (t18 : Bool) (t19 : Int) (t20 : Int) : cong_Rem.c0 false (fun _ => true) a0 a1 b0 b1 t1 t2 t3 t4 t5 t6 t7 t8 t9 t10 t11 t12 t13 t14 t15 t16 t17 t18 t19 t20 = true → cong_Rem.c0 none (fun q => some (k q)) a0 a1 b0 b1 t1 t2 t3 t4 t5 t6 t7 t8 t9 t10 t11 t12 t13 t14 t15 t16 t17 t18 t19 t20 = some (k (cong_Rem.c0 (0, 0) id a0 a1 b0 b1 t1 t2 t3 t4 t5 t6 t7 t8 t9 t10 t11 t12 t13 t14 t15 t16 t17 t18 t19 t20)) := by
  unfold cong_Rem.c0; (repeat' (first | (apply pn k) | (exact pn_none _ _) | (exact pn_leaf k _)))
theorem cong_Rem.p {γ : Type} (k : Int × Int → γ) (a0 : Int) (a1 : Int) (b0 : Int) (b1 : Int) (h : cong_Rem.ok a0 a1 b0 b1 = true) : cong_Rem.c none (fun q => some (k q)) a0 a1 b0 b1 = some (k (cong_Rem a0 a1 b0 b1)) :=
  let t1 := cong_Norm b0 b1; let t2 := cong_Norm a0 a1; let t3 := cong_alone t2.fst t2.snd; let t4 := cong_alone t1.fst t1.snd; let t5 := IntKind.i64.wrap t2.snd; let t6 := IntKind.i64.wrap t1.snd; let t7 := word_Rem t5 t6; let t8 := cong_Const t7.fst; let t9 := word_Gcd.g 0 t2.fst; let t10 := word_Gcd 0 t2.fst; let t11 := word_Gcd.g t10 t1.fst; let t12 := word_Gcd t10 t1.fst; let t13 := IntKind.u64.wrap (0 - t1.snd); let t14 := bif decide (t6 < 0) then t13 else t1.snd; let t15 := word_Gcd.g t12 t14; let t16 := word_Gcd t12 t14; let t17 := cong_rest t2.fst t2.snd t16; let t18 := word_Gcd.g t12 t1.snd; let t19 := word_Gcd t12 t1.snd; let t20 := cong_rest t2.fst t2.snd t19; cong_Rem.p0 k a0 a1 b0 b1 t1 t2 t3 t4 t5 t6 t7 t8 t9 t10 t11 t12 t13 t14 t15 t16 t17 t18 t19 t20 h
theorem cong_Rem.r (a0 : Int) (a1 : Int) (b0 : Int) (b1 : Int) : runF P G (tab L_cong_Div) { merge := true } 60 Tryd.f36 [.agg #[.int .u64 a0, .int .u64 a1], .agg #[.int .u64 b0, .int .u64 b1]] = cong_Rem.c none (fun q => some (.agg #[.int .u64 (q).1, .int .u64 (q).2] : Value)) a0 a1 b0 b1 := by kernel_rfl
theorem cong_Rem.t : TabOK P G (tab L_cong_Rem) :=
  TabOK_mk C cong_Div.t Tryd.func36 (by kernel_rfl) true 60 (by
    rintro ⟨⟨a0, ⟨a1, ⟨⟩⟩⟩, ⟨⟨b0, ⟨b1, ⟨⟩⟩⟩, ⟨⟩⟩⟩ h
    exact (cong_Rem.r a0 a1 b0 b1).trans (cong_Rem.p (fun q => (.agg #[.int .u64 (q).1, .int .u64 (q).2] : Value)) a0 a1 b0 b1 h))

def ref_Two.val (q : Int) : Value := .int .u64 (q)
def ref_Two.h : List (Nat × List Nat × Nat) := [(2, [1, 3], 1)]
def ref_Two.e0 (q : Int × Int × Int) : St := { tmps := [.unk, .ptr 0 0, .unk, .val (.int .i64 (q).1), .unk, .unk, .unk, .unk, .unk, .unk, .unk, .unk, .unk, .unk], blks := [some ⟨[.val (.int .u64 (q).2.1), .val (.int .u64 (q).2.2)], 56⟩], saved := [] }
noncomputable def ref_Two.B0 : Code := loopAt [1, 0, 1, 0] (fbody Tryd.f90)
noncomputable def ref_Two.H (F0 : LSum) : Heads := { heads := ref_Two.h, merge := true, sums := [(2, F0)] }
noncomputable def ref_Two.H0  : Heads := { heads := ref_Two.h, merge := true, sums := [] }
noncomputable def ref_Two.K0 (F0 : LSum) : Xt → St → Option Value := kAt P G (tab L_cong_Rem) (ref_Two.H F0) [1, 0, 1, 0] 60 (fbody Tryd.f90) (retK P G Tryd.f90)
def ref_Two.l0.c0 {γ : Type} (k0 : Int × Int × Int → Option γ) (k : Int → Option γ) (s3 : Int) (b0_0 : Int) (b0_1 : Int) (t1 : Bool) (t2 : Int) (t3 : Int) (t4 : Int) : Option γ := bif decide (s3 < 63)
  then bif t1
   then bif t2 == 1
    then bif !decide (s3 < 0)
     then k (t3)
     else none
    else k0 (t4, b0_0, b0_1)
   else none
  else k (9223372036854775808)
def ref_Two.l0.c {γ : Type} (k0 : Int × Int × Int → Option γ) (k : Int → Option γ) (s3 : Int) (b0_0 : Int) (b0_1 : Int) : Option γ := let t1 := ref_bitOf.ok b0_0 b0_1 s3; let t2 := ref_bitOf b0_0 b0_1 s3; let t3 := IntKind.u64.wrap (1 * 2 ^ min s3.toNat IntKind.u64.bits); let t4 := IntKind.i64.wrap (s3 + 1); ref_Two.l0.c0 k0 k s3 b0_0 b0_1 t1 t2 t3 t4
def ref_Two.c {γ : Type} (k0 : Int × Int × Int → Option γ) (k : Int → Option γ) (a0 : Int) (a1 : Int) : Option γ := k0 (0, a0, a1)
def ref_Two.L0 (N : Nat)  : Nat → Int × Int × Int → Option (Int)
  | 0, _ => none
  | m + 1, q => ref_Two.l0.c (ref_Two.L0 N m) some (q).1 (q).2.1 (q).2.2
def ref_Two.o (N : Nat) (a0 : Int) (a1 : Int) : Option (Int) := ref_Two.c (ref_Two.L0 N  N) some a0 a1
noncomputable def ref_Two.S0 (N : Nat) : LSum := sumN P G (tab L_cong_Rem) (ref_Two.H0 ) 60 ref_Two.B0 N
theorem ref_Two.l0.p0 {γ δ : Type} (f : γ → δ) (k0 : Int × Int × Int → Option γ) (k : Int → Option γ) (s3 : Int) (b0_0 : Int) (b0_1 : Int) (t1 : Bool) (t2 : Int) (t3 : Int) (t4 : Int) : ref_Two.l0.c0 (fun q => (k0 q).map f) (fun q => (k q).map f) s3 b0_0 b0_1 t1 t2 t3 t4 = (ref_Two.l0.c0 k0 k s3 b0_0 b0_1 t1 t2 t3 t4).map f := by
  unfold ref_Two.l0.c0; (repeat' (first | (apply pm f) | (exact rfl)))
theorem ref_Two.l0.p {γ δ : Type} (f : γ → δ) (k0 : Int × Int × Int → Option γ) (k : Int → Option γ) (s3 : Int) (b0_0 : Int) (b0_1 : Int) : ref_Two.l0.c (fun q => (k0 q).map f) (fun q => (k q).map f) s3 b0_0 b0_1 = (ref_Two.l0.c k0 k s3 b0_0 b0_1).map f :=
  let t1 := ref_bitOf.ok b0_0 b0_1 s3; let t2 := ref_bitOf b0_0 b0_1 s3; let t3 := IntKind.u64.wrap (1 * 2 ^ min s3.toNat IntKind.u64.bits); let t4 := IntKind.i64.wrap (s3 + 1); ref_Two.l0.p0 f k0 k s3 b0_0 b0_1 t1 t2 t3 t4
theorem ref_Two.p {γ δ : Type} (f : γ → δ) (k0 : Int × Int × Int → Option γ) (k : Int → Option γ) (a0 : Int) (a1 : Int) : ref_Two.c (fun q => (k0 q).map f) (fun q => (k q).map f) a0 a1 = (ref_Two.c k0 k a0 a1).map f := by
  unfold ref_Two.c; (repeat' (first | (apply pm f) | (exact rfl)))
theorem ref_Two.S0.ok (N : Nat) : LoopsOK P G (ref_Two.H0 ).sums ref_Two.B0 := by
  refine LoopsOK_code fun i hi F hF => ?_
  have hlen : (loopsOf ref_Two.B0).length = 0 := by kernel_rfl
  rw [hlen] at hi
  omega

theorem ref_Two.S0.snd (N : Nat) : SoundL P G ref_Two.B0 (ref_Two.S0 N) := sumN_sound C.mixed C.names cong_Rem.t (ref_Two.S0.ok N) N
theorem ref_Two.l0.r (F0 G0 : LSum) (s3 : Int) (b0_0 : Int) (b0_1 : Int) : ex P G (tab L_cong_Rem) (ref_Two.H0 ) 60 ref_Two.B0 (ref_Two.e0 (s3, b0_0, b0_1)) (roundK (ref_Two.H0 ) ref_Two.B0 G0 (ref_Two.K0 F0)) = ref_Two.l0.c (fun q => G0.run (ref_Two.e0 q) (ref_Two.K0 F0)) (fun q => some (ref_Two.val q)) s3 b0_0 b0_1 := by kernel_rfl
theorem ref_Two.r (F0 : LSum) (a0 : Int) (a1 : Int) : runF P G (tab L_cong_Rem) (ref_Two.H F0) 60 Tryd.f90 [.agg #[.int .u64 a0, .int .u64 a1]] = ref_Two.c (fun q => F0.run (ref_Two.e0 q) (ref_Two.K0 F0)) (fun q => some (ref_Two.val q)) a0 a1 := by kernel_rfl
theorem ref_Two.L0.ok (N : Nat) (F0 : LSum)   : ∀ m q, (sumN P G (tab L_cong_Rem) (ref_Two.H0 ) 60 ref_Two.B0 m).run (ref_Two.e0 q) (ref_Two.K0 F0) = (ref_Two.L0 N  m q).map ref_Two.val
  | 0, q => rfl
  | m + 1, q => by
    have ih := ref_Two.L0.ok N F0   m
    refine (sumN_run (n := m) rfl).trans ((ref_Two.l0.r F0 (sumN P G (tab L_cong_Rem) (ref_Two.H0 ) 60 ref_Two.B0 m) (q).1 (q).2.1 (q).2.2).trans ?_)
    refine Eq.trans ?_ (ref_Two.l0.p ref_Two.val (ref_Two.L0 N m) some (q).1 (q).2.1 (q).2.2)
    have e0 : (fun q => (sumN P G (tab L_cong_Rem) (ref_Two.H0 ) 60 ref_Two.B0 m).run (ref_Two.e0 q) (ref_Two.K0 F0)) = (fun q => ((ref_Two.L0 N m) q).map ref_Two.val) := funext ih
    rw [e0]; rfl

theorem ref_Two.q (N : Nat) (a0 : Int) (a1 : Int) : runF P G (tab L_cong_Rem) (ref_Two.H (ref_Two.S0 N)) 60 Tryd.f90 [.agg #[.int .u64 a0, .int .u64 a1]] = (ref_Two.o N a0 a1).map ref_Two.val := by
  have hk0 := ref_Two.L0.ok N (ref_Two.S0 N)   N
  refine (ref_Two.r (ref_Two.S0 N) a0 a1).trans ?_
  refine Eq.trans ?_ (ref_Two.p ref_Two.val (ref_Two.L0 N  N) some a0 a1)
  have e0 : (fun q => (ref_Two.S0 N).run (ref_Two.e0 q) (ref_Two.K0 (ref_Two.S0 N))) = (fun q => ((ref_Two.L0 N  N) q).map ref_Two.val) := funext hk0
  rw [e0]; rfl

theorem ref_Two.lok (N : Nat) : LoopsOK P G (ref_Two.H (ref_Two.S0 N)).sums (fbody Tryd.f90) := by
  refine LoopsOK_code fun i hi F hF => ?_
  have hlen : (loopsOf (fbody Tryd.f90)).length = 1 := by kernel_rfl
  rw [hlen] at hi
  match i, hi with
  | 0, _ => exact soundAt (B' := ref_Two.B0) (by kernel_rfl) (by kernel_rfl) (ref_Two.S0.snd N) hF
  | _ + 1, h => omega

def ref_Two (a0 : Int) (a1 : Int) : Int := hide ((ref_Two.o (66) a0 a1).getD (0))
def ref_Two.g (a0 : Int) (a1 : Int) : Bool := hide (ref_Two.o (66) a0 a1).isSome
theorem ref_Two.s (a0 : Int) (a1 : Int) (h : ref_Two.g a0 a1 = true) : ref_Two.o (66) a0 a1 = some (ref_Two a0 a1) := by
  unfold ref_Two.g at h; unfold ref_Two; simp only [hide_eq] at h ⊢; revert h; cases ref_Two.o (66) a0 a1 <;> simp
def ref_Two.F : FV := mkF (cP (cA (cP (cI .u64) (cP (cI .u64) cU))) cU) (fun | ((a0, (a1, ())), ()) => ref_Two.g a0 a1) (fun | ((a0, (a1, ())), ()) => ref_Two.val (ref_Two a0 a1))
def L_ref_Two : TL := (90, ref_Two.F) :: L_cong_Rem
theorem ref_Two.t : TabOK P G (tab L_ref_Two) :=
  TabOK_mkH C cong_Rem.t Tryd.func90 (by kernel_rfl) (fun | ((_, (_, ())), ()) => ref_Two.H (ref_Two.S0 (66))) (by rintro ⟨⟨a0, ⟨a1, ⟨⟩⟩⟩, ⟨⟩⟩; exact ref_Two.lok _) 60 (by
    rintro ⟨⟨a0, ⟨a1, ⟨⟩⟩⟩, ⟨⟩⟩ h
    exact (ref_Two.q (66) a0 a1).trans (congrArg (Option.map ref_Two.val) (ref_Two.s a0 a1 h)))

def ref_by.c0 {γ : Type} (n : γ) (k : Int × Int → γ) (a0 : Int) (a1 : Int) (a2 : Bool) (b0 : Int) (b1 : Int) (c : Bool) (t1 : Bool) (t2 : Int × Int) (t3 : Bool) (t4 : Int) (t5 : Bool) (t6 : Int × Int) : γ := bif c
  then bif b0 == 0
   then bif t1
    then k (t2.fst, t2.snd)
    else n
   else bif t3
    then bif t5
     then k (t6.fst, t6.snd)
     else n
    else n
  else bif t3
   then bif t5
    then k (t6.fst, t6.snd)
    else n
   else n
def ref_by.c {γ : Type} (n : γ) (k : Int × Int → γ) (a0 : Int) (a1 : Int) (a2 : Bool) (b0 : Int) (b1 : Int) (c : Bool) : γ := let t1 := ref_class.ok a0 a1 a2 b1; let t2 := ref_class a0 a1 a2 b1; let t3 := ref_Two.g b0 b1; let t4 := ref_Two b0 b1; let t5 := ref_class.ok a0 a1 a2 t4; let t6 := ref_class a0 a1 a2 t4; ref_by.c0 n k a0 a1 a2 b0 b1 c t1 t2 t3 t4 t5 t6
def ref_by.ok (a0 : Int) (a1 : Int) (a2 : Bool) (b0 : Int) (b1 : Int) (c : Bool) : Bool := ref_by.c false (fun _ => true) a0 a1 a2 b0 b1 c
def ref_by (a0 : Int) (a1 : Int) (a2 : Bool) (b0 : Int) (b1 : Int) (c : Bool) : Int × Int := ref_by.c (0, 0) id a0 a1 a2 b0 b1 c
def ref_by.F : FV := mkF (cP (cA (cP (cI .u64) (cP (cI .u64) (cP cB cU)))) (cP (cA (cP (cI .u64) (cP (cI .u64) cU))) (cP cB cU))) (fun | ((a0, (a1, (a2, ()))), ((b0, (b1, ())), (c, ()))) => ref_by.ok a0 a1 a2 b0 b1 c) (fun | ((a0, (a1, (a2, ()))), ((b0, (b1, ())), (c, ()))) => .agg #[.int .u64 (ref_by a0 a1 a2 b0 b1 c).1, .int .u64 (ref_by a0 a1 a2 b0 b1 c).2])
def L_ref_by : TL := (68, ref_by.F) :: L_ref_Two
theorem ref_by.p0 {γ : Type} (k : Int × Int → γ) (a0 : Int) (a1 : Int) (a2 : Bool) (b0 : Int) (b1 : Int) (c : Bool) (t1 : Bool) (t2 : Int × Int) (t3 : Bool) (t4 : Int) (t5 : Bool) (t6 : Int × Int) : ref_by.c0 false (fun _ => true) a0 a1 a2 b0 b1 c t1 t2 t3 t4 t5 t6 = true → ref_by.c0 none (fun q => some (k q)) a0 a1 a2 b0 b1 c t1 t2 t3 t4 t5 t6 = some (k (ref_by.c0 (0, 0) id a0 a1 a2 b0 b1 c t1 t2 t3 t4 t5 t6)) := by
  unfold ref_by.c0; (repeat' (first | (apply pn k) | (exact pn_none _ _) | (exact pn_leaf k _)))
theorem ref_by.p {γ : Type} (k : Int × Int → γ) (a0 : Int) (a1 : Int) (a2 : Bool) (b0 : Int) (b1 : Int) (c : Bool) (h : ref_by.ok a0 a1 a2 b0 b1 c = true) : ref_by.c none (fun q => some (k q)) a0 a1 a2 b0 b1 c = some (k (ref_by a0 a1 a2 b0 b1 c)) :=
  let t1 := ref_class.ok a0 a1 a2 b1; let t2 := ref_class a0 a1 a2 b1; let t3 := ref_Two.g b0 b1; let t4 := ref_Two b0 b1; let t5 := ref_class.ok a0 a1 a2 t4; let t6 := ref_class a0 a1 a2 t4; ref_by.p0 k a0 a1 a2 b0 b1 c t1 t2 t3 t4 t5 t6 h
theorem ref_by.r (a0 : Int) (a1 : Int) (a2 : Bool) (b0 : Int) (b1 : Int) (c : Bool) : runF P G (tab L_ref_Two) { merge := true } 60 Tryd.f68 [.agg #[.int .u64 a0, .int .u64 a1, .bool a2], .agg #[.int .u64 b0, .int .u64 b1], .bool c] = ref_by.c none (fun q => some (.agg #[.int .u64 (q).1, .int .u64 (q).2] : Value)) a0 a1 a2 b0 b1 c := by kernel_rfl
theorem ref_by.t : TabOK P G (tab L_ref_by) :=
  TabOK_mk C ref_Two.t Tryd.func68 (by kernel_rfl) true 60 (by
    rintro ⟨⟨a0, ⟨a1, ⟨a2, ⟨⟩⟩⟩⟩, ⟨⟨b0, ⟨b1, ⟨⟩⟩⟩, ⟨c, ⟨⟩⟩⟩⟩ h
    exact (ref_by.r a0 a1 a2 b0 b1 c).trans (ref_by.p (fun q => (.agg #[.int .u64 (q).1, .int .u64 (q).2] : Value)) a0 a1 a2 b0 b1 c h))

def ref_Neg.c0 {γ : Type} (n : γ) (k : Int × Int → γ) (a0 : Int) (a1 : Int) (b : Bool) (t1 : Int) (t2 : Int) (t3 : Int × Int) (t4 : Bool) (t5 : Int × Int × Bool) (t6 : Int × Int) (t7 : Bool) (t8 : Int × Int) : γ := bif a0 == 0
  then k (t3.fst, t3.snd)
  else bif t4
   then bif t7
    then k (t8.fst, t8.snd)
    else n
   else n
def ref_Neg.c {γ : Type} (n : γ) (k : Int × Int → γ) (a0 : Int) (a1 : Int) (b : Bool) : γ := let t1 := ref_number a0 a1; let t2 := IntKind.i64.wrap (0 - t1); let t3 := ref_Const t2; let t4 := ref_r.ok a0 a1; let t5 := ref_r a0 a1; let t6 := ref_of a0; let t7 := ref_by.ok t5.fst t5.snd.fst true t6.fst t6.snd b; let t8 := ref_by t5.fst t5.snd.fst true t6.fst t6.snd b; ref_Neg.c0 n k a0 a1 b t1 t2 t3 t4 t5 t6 t7 t8
def ref_Neg.ok (a0 : Int) (a1 : Int) (b : Bool) : Bool := ref_Neg.c false (fun _ => true) a0 a1 b
def ref_Neg (a0 : Int) (a1 : Int) (b : Bool) : Int × Int := ref_Neg.c (0, 0) id a0 a1 b
def ref_Neg.F : FV := mkF (cP (cA (cP (cI .u64) (cP (cI .u64) cU))) (cP cB cU)) (fun | ((a0, (a1, ())), (b, ())) => ref_Neg.ok a0 a1 b) (fun | ((a0, (a1, ())), (b, ())) => .agg #[.int .u64 (ref_Neg a0 a1 b).1, .int .u64 (ref_Neg a0 a1 b).2])
def L_ref_Neg : TL := (27, ref_Neg.F) :: L_ref_by
theorem ref_Neg.p0 {γ : Type} (k : Int × Int → γ) (a0 : Int) (a1 : Int) (b : Bool) (t1 : Int) (t2 : Int) (t3 : Int × Int) (t4 : Bool) (t5 : Int × Int × Bool) (t6 : Int × Int) (t7 : Bool) (t8 : Int × Int) : ref_Neg.c0 false (fun _ => true) a0 a1 b t1 t2 t3 t4 t5 t6 t7 t8 = true → ref_Neg.c0 none (fun q => some (k q)) a0 a1 b t1 t2 t3 t4 t5 t6 t7 t8 = some (k (ref_Neg.c0 (0, 0) id a0 a1 b t1 t2 t3 t4 t5 t6 t7 t8)) := by
  unfold ref_Neg.c0; (repeat' (first | (apply pn k) | (exact pn_none _ _) | (exact pn_leaf k _)))
theorem ref_Neg.p {γ : Type} (k : Int × Int → γ) (a0 : Int) (a1 : Int) (b : Bool) (h : ref_Neg.ok a0 a1 b = true) : ref_Neg.c none (fun q => some (k q)) a0 a1 b = some (k (ref_Neg a0 a1 b)) :=
  let t1 := ref_number a0 a1; let t2 := IntKind.i64.wrap (0 - t1); let t3 := ref_Const t2; let t4 := ref_r.ok a0 a1; let t5 := ref_r a0 a1; let t6 := ref_of a0; let t7 := ref_by.ok t5.fst t5.snd.fst true t6.fst t6.snd b; let t8 := ref_by t5.fst t5.snd.fst true t6.fst t6.snd b; ref_Neg.p0 k a0 a1 b t1 t2 t3 t4 t5 t6 t7 t8 h
theorem ref_Neg.r (a0 : Int) (a1 : Int) (b : Bool) : runF P G (tab L_ref_by) { merge := true } 60 Tryd.f27 [.agg #[.int .u64 a0, .int .u64 a1], .bool b] = ref_Neg.c none (fun q => some (.agg #[.int .u64 (q).1, .int .u64 (q).2] : Value)) a0 a1 b := by kernel_rfl
theorem ref_Neg.t : TabOK P G (tab L_ref_Neg) :=
  TabOK_mk C ref_by.t Tryd.func27 (by kernel_rfl) true 60 (by
    rintro ⟨⟨a0, ⟨a1, ⟨⟩⟩⟩, ⟨b, ⟨⟩⟩⟩ h
    exact (ref_Neg.r a0 a1 b).trans (ref_Neg.p (fun q => (.agg #[.int .u64 (q).1, .int .u64 (q).2] : Value)) a0 a1 b h))

def ref_sum.c0 {γ : Type} (k : Int × Int × Bool → γ) (a0 : Int) (a1 : Int) (a2 : Bool) (b0 : Int) (b1 : Int) (b2 : Bool) (t1 : Bool) (t2 : Int × Int) (t3 : Int × Int) (t4 : Int × Int) (t5 : Int × Int) : γ := bif !a2 == b2
  then bif t1
   then k (t2.fst, t2.snd, !a2)
   else k (t3.fst, t3.snd, a2)
  else k (t5.fst, t5.snd, a2)
def ref_sum.c {γ : Type} (k : Int × Int × Bool → γ) (a0 : Int) (a1 : Int) (a2 : Bool) (b0 : Int) (b1 : Int) (b2 : Bool) : γ := let t1 := ref_less a0 a1 b0 b1; let t2 := ref_minus b0 b1 a0 a1; let t3 := ref_minus a0 a1 b0 b1; let t4 := ref_minus 0 0 b0 b1; let t5 := ref_minus a0 a1 t4.fst t4.snd; ref_sum.c0 k a0 a1 a2 b0 b1 b2 t1 t2 t3 t4 t5
def ref_sum (a0 : Int) (a1 : Int) (a2 : Bool) (b0 : Int) (b1 : Int) (b2 : Bool) : Int × Int × Bool := ref_sum.c id a0 a1 a2 b0 b1 b2
def ref_sum.F : FV := mkF (cP (cA (cP (cI .u64) (cP (cI .u64) (cP cB cU)))) (cP (cA (cP (cI .u64) (cP (cI .u64) (cP cB cU)))) cU)) (fun _ => true) (fun | ((a0, (a1, (a2, ()))), ((b0, (b1, (b2, ()))), ())) => .agg #[.int .u64 (ref_sum a0 a1 a2 b0 b1 b2).1, .int .u64 (ref_sum a0 a1 a2 b0 b1 b2).2.1, .bool (ref_sum a0 a1 a2 b0 b1 b2).2.2])
def L_ref_sum : TL := (72, ref_sum.F) :: L_ref_Neg
theorem ref_sum.p0 {γ : Type} (k : Int × Int × Bool → γ) (a0 : Int) (a1 : Int) (a2 : Bool) (b0 : Int) (b1 : Int) (b2 : Bool) (t1 : Bool) (t2 : Int × Int) (t3 : Int × Int) (t4 : Int × Int) (t5 : Int × Int) : ref_sum.c0 k a0 a1 a2 b0 b1 b2 t1 t2 t3 t4 t5 = k (ref_sum.c0 id a0 a1 a2 b0 b1 b2 t1 t2 t3 t4 t5) := by
  unfold ref_sum.c0; (repeat' (first | (apply pc k) | (exact rfl)))
theorem ref_sum.p {γ : Type} (k : Int × Int × Bool → γ) (a0 : Int) (a1 : Int) (a2 : Bool) (b0 : Int) (b1 : Int) (b2 : Bool) : ref_sum.c k a0 a1 a2 b0 b1 b2 = k (ref_sum a0 a1 a2 b0 b1 b2) :=
  let t1 := ref_less a0 a1 b0 b1; let t2 := ref_minus b0 b1 a0 a1; let t3 := ref_minus a0 a1 b0 b1; let t4 := ref_minus 0 0 b0 b1; let t5 := ref_minus a0 a1 t4.fst t4.snd; ref_sum.p0 k a0 a1 a2 b0 b1 b2 t1 t2 t3 t4 t5
theorem ref_sum.r (a0 : Int) (a1 : Int) (a2 : Bool) (b0 : Int) (b1 : Int) (b2 : Bool) : runF P G (tab L_ref_Neg) { merge := true } 60 Tryd.f72 [.agg #[.int .u64 a0, .int .u64 a1, .bool a2], .agg #[.int .u64 b0, .int .u64 b1, .bool b2]] = ref_sum.c (fun q => some (.agg #[.int .u64 (q).1, .int .u64 (q).2.1, .bool (q).2.2] : Value)) a0 a1 a2 b0 b1 b2 := by kernel_rfl
theorem ref_sum.t : TabOK P G (tab L_ref_sum) :=
  TabOK_mk C ref_Neg.t Tryd.func72 (by kernel_rfl) true 60 (by
    rintro ⟨⟨a0, ⟨a1, ⟨a2, ⟨⟩⟩⟩⟩, ⟨⟨b0, ⟨b1, ⟨b2, ⟨⟩⟩⟩⟩, ⟨⟩⟩⟩ h
    exact (ref_sum.r a0 a1 a2 b0 b1 b2).trans (ref_sum.p (fun q => some (.agg #[.int .u64 (q).1, .int .u64 (q).2.1, .bool (q).2.2] : Value)) a0 a1 a2 b0 b1 b2))

def ref_Add.c0 {γ : Type} (n : γ) (k : Int × Int → γ) (a0 : Int) (a1 : Int) (b0 : Int) (b1 : Int) (c : Bool) (t1 : Int) (t2 : Int) (t3 : Int) (t4 : Int × Int) (t5 : Bool) (t6 : Bool) (t7 : Int × Int) (t8 : Int × Int) (t9 : Bool) (t10 : Int × Int × Bool) (t11 : Int × Int × Bool) (t12 : Int × Int × Bool) (t13 : Int × Int) (t14 : Bool) (t15 : Int × Int) : γ := bif a0 == 0
  then bif b0 == 0
   then k (t4.fst, t4.snd)
   else bif t5
    then bif t6
     then bif t9
      then bif t14
       then k (t15.fst, t15.snd)
       else n
      else n
     else n
    else n
  else bif t5
   then bif t6
    then bif t9
     then bif t14
      then k (t15.fst, t15.snd)
      else n
     else n
    else n
   else n
def ref_Add.c {γ : Type} (n : γ) (k : Int × Int → γ) (a0 : Int) (a1 : Int) (b0 : Int) (b1 : Int) (c : Bool) : γ := let t1 := ref_number a0 a1; let t2 := ref_number b0 b1; let t3 := IntKind.i64.wrap (t1 + t2); let t4 := ref_Const t3; let t5 := ref_r.ok a0 a1; let t6 := ref_r.ok b0 b1; let t7 := ref_of a0; let t8 := ref_of b0; let t9 := ref_gcd.g t7.fst t7.snd t8.fst t8.snd; let t10 := ref_r a0 a1; let t11 := ref_r b0 b1; let t12 := ref_sum t10.fst t10.snd.fst t10.snd.snd t11.fst t11.snd.fst t11.snd.snd; let t13 := ref_gcd t7.fst t7.snd t8.fst t8.snd; let t14 := ref_by.ok t12.fst t12.snd.fst t12.snd.snd t13.fst t13.snd c; let t15 := ref_by t12.fst t12.snd.fst t12.snd.snd t13.fst t13.snd c; ref_Add.c0 n k a0 a1 b0 b1 c t1 t2 t3 t4 t5 t6 t7 t8 t9 t10 t11 t12 t13 t14 t15
def ref_Add.ok (a0 : Int) (a1 : Int) (b0 : Int) (b1 : Int) (c : Bool) : Bool := ref_Add.c false (fun _ => true) a0 a1 b0 b1 c
def ref_Add (a0 : Int) (a1 : Int) (b0 : Int) (b1 : Int) (c : Bool) : Int × Int := ref_Add.c (0, 0) id a0 a1 b0 b1 c
def ref_Add.F : FV := mkF (cP (cA (cP (cI .u64) (cP (cI .u64) cU))) (cP (cA (cP (cI .u64) (cP (cI .u64) cU))) (cP cB cU))) (fun | ((a0, (a1, ())), ((b0, (b1, ())), (c, ()))) => ref_Add.ok a0 a1 b0 b1 c) (fun | ((a0, (a1, ())), ((b0, (b1, ())), (c, ()))) => .agg #[.int .u64 (ref_Add a0 a1 b0 b1 c).1, .int .u64 (ref_Add a0 a1 b0 b1 c).2])
def L_ref_Add : TL := (29, ref_Add.F) :: L_ref_sum
theorem ref_Add.p0 {γ : Type} (k : Int × Int → γ) (a0 : Int) (a1 : Int) (b0 : Int) (b1 : Int) (c : Bool) (t1 : Int) (t2 : Int) (t3 : Int) (t4 : Int × Int) (t5 : Bool) (t6 : Bool) (t7 : Int × Int) (t8 : Int × Int) (t9 : Bool) (t10 : Int × Int × Bool) (t11 : Int × Int × Bool) (t12 : Int × Int × Bool) (t13 : Int × Int) (t14 : Bool) (t15 : Int × Int) : ref_Add.c0 false (fun _ => true) a0 a1 b0 b1 c t1 t2 t3 t4 t5 t6 t7 t8 t9 t10 t11 t12 t13 t14 t15 = true → ref_Add.c0 none (fun q => some (k q)) a0 a1 b0 b1 c t1 t2 t3 t4 t5 t6 t7 t8 t9 t10 t11 t12 t13 t14 t15 = some (k (ref_Add.c0 (0, 0) id a0 a1 b0 b1 c t1 t2 t3 t4 t5 t6 t7 t8 t9 t10 t11 t12 t13 t14 t15)) := by
  unfold ref_Add.c0; (repeat' (first | (apply pn k) | (exact pn_none _ _) | (exact pn_leaf k _)))
theorem ref_Add.p {γ : Type} (k : Int × Int → γ) (a0 : Int) (a1 : Int) (b0 : Int) (b1 : Int) (c : Bool) (h : ref_Add.ok a0 a1 b0 b1 c = true) : ref_Add.c none (fun q => some (k q)) a0 a1 b0 b1 c = some (k (ref_Add a0 a1 b0 b1 c)) :=
  let t1 := ref_number a0 a1; let t2 := ref_number b0 b1; let t3 := IntKind.i64.wrap (t1 + t2); let t4 := ref_Const t3; let t5 := ref_r.ok a0 a1; let t6 := ref_r.ok b0 b1; let t7 := ref_of a0; let t8 := ref_of b0; let t9 := ref_gcd.g t7.fst t7.snd t8.fst t8.snd; let t10 := ref_r a0 a1; let t11 := ref_r b0 b1; let t12 := ref_sum t10.fst t10.snd.fst t10.snd.snd t11.fst t11.snd.fst t11.snd.snd; let t13 := ref_gcd t7.fst t7.snd t8.fst t8.snd; let t14 := ref_by.ok t12.fst t12.snd.fst t12.snd.snd t13.fst t13.snd c; let t15 := ref_by t12.fst t12.snd.fst t12.snd.snd t13.fst t13.snd c; ref_Add.p0 k a0 a1 b0 b1 c t1 t2 t3 t4 t5 t6 t7 t8 t9 t10 t11 t12 t13 t14 t15 h
theorem ref_Add.r (a0 : Int) (a1 : Int) (b0 : Int) (b1 : Int) (c : Bool) : runF P G (tab L_ref_sum) { merge := true } 60 Tryd.f29 [.agg #[.int .u64 a0, .int .u64 a1], .agg #[.int .u64 b0, .int .u64 b1], .bool c] = ref_Add.c none (fun q => some (.agg #[.int .u64 (q).1, .int .u64 (q).2] : Value)) a0 a1 b0 b1 c := by kernel_rfl
theorem ref_Add.t : TabOK P G (tab L_ref_Add) :=
  TabOK_mk C ref_sum.t Tryd.func29 (by kernel_rfl) true 60 (by
    rintro ⟨⟨a0, ⟨a1, ⟨⟩⟩⟩, ⟨⟨b0, ⟨b1, ⟨⟩⟩⟩, ⟨c, ⟨⟩⟩⟩⟩ h
    exact (ref_Add.r a0 a1 b0 b1 c).trans (ref_Add.p (fun q => (.agg #[.int .u64 (q).1, .int .u64 (q).2] : Value)) a0 a1 b0 b1 c h))

def ref_Sub.c0 {γ : Type} (n : γ) (k : Int × Int → γ) (a0 : Int) (a1 : Int) (b0 : Int) (b1 : Int) (c : Bool) (t1 : Int) (t2 : Int) (t3 : Int) (t4 : Int × Int) (t5 : Bool) (t6 : Bool) (t7 : Int × Int) (t8 : Int × Int) (t9 : Bool) (t10 : Int × Int × Bool) (t11 : Int × Int × Bool) (t12 : Int × Int × Bool) (t13 : Int × Int) (t14 : Bool) (t15 : Int × Int) : γ := bif a0 == 0
  then bif b0 == 0
   then k (t4.fst, t4.snd)
   else bif t5
    then bif t6
     then bif t9
      then bif t14
       then k (t15.fst, t15.snd)
       else n
      else n
     else n
    else n
  else bif t5
   then bif t6
    then bif t9
     then bif t14
      then k (t15.fst, t15.snd)
      else n
     else n
    else n
   else n
def ref_Sub.c {γ : Type} (n : γ) (k : Int × Int → γ) (a0 : Int) (a1 : Int) (b0 : Int) (b1 : Int) (c : Bool) : γ := let t1 := ref_number a0 a1; let t2 := ref_number b0 b1; let t3 := IntKind.i64.wrap (t1 - t2); let t4 := ref_Const t3; let t5 := ref_r.ok b0 b1; let t6 := ref_r.ok a0 a1; let t7 := ref_of a0; let t8 := ref_of b0; let t9 := ref_gcd.g t7.fst t7.snd t8.fst t8.snd; let t10 := ref_r a0 a1; let t11 := ref_r b0 b1; let t12 := ref_sum t10.fst t10.snd.fst t10.snd.snd t11.fst t11.snd.fst !t11.snd.snd; let t13 := ref_gcd t7.fst t7.snd t8.fst t8.snd; let t14 := ref_by.ok t12.fst t12.snd.fst t12.snd.snd t13.fst t13.snd c; let t15 := ref_by t12.fst t12.snd.fst t12.snd.snd t13.fst t13.snd c; ref_Sub.c0 n k a0 a1 b0 b1 c t1 t2 t3 t4 t5 t6 t7 t8 t9 t10 t11 t12 t13 t14 t15
def ref_Sub.ok (a0 : Int) (a1 : Int) (b0 : Int) (b1 : Int) (c : Bool) : Bool := ref_Sub.c false (fun _ => true) a0 a1 b0 b1 c
def ref_Sub (a0 : Int) (a1 : Int) (b0 : Int) (b1 : Int) (c : Bool) : Int × Int := ref_Sub.c (0, 0) id a0 a1 b0 b1 c
def ref_Sub.F : FV := mkF (cP (cA (cP (cI .u64) (cP (cI .u64) cU))) (cP (cA (cP (cI .u64) (cP (cI .u64) cU))) (cP cB cU))) (fun | ((a0, (a1, ())), ((b0, (b1, ())), (c, ()))) => ref_Sub.ok a0 a1 b0 b1 c) (fun | ((a0, (a1, ())), ((b0, (b1, ())), (c, ()))) => .agg #[.int .u64 (ref_Sub a0 a1 b0 b1 c).1, .int .u64 (ref_Sub a0 a1 b0 b1 c).2])
def L_ref_Sub : TL := (31, ref_Sub.F) :: L_ref_Add
theorem ref_Sub.p0 {γ : Type} (k : Int × Int → γ) (a0 : Int) (a1 : Int) (b0 : Int) (b1 : Int) (c : Bool) (t1 : Int) (t2 : Int) (t3 : Int) (t4 : Int × Int) (t5 : Bool) (t6 : Bool) (t7 : Int × Int) (t8 : Int × Int) (t9 : Bool) (t10 : Int × Int × Bool) (t11 : Int × Int × Bool) (t12 : Int × Int × Bool) (t13 : Int × Int) (t14 : Bool) (t15 : Int × Int) : ref_Sub.c0 false (fun _ => true) a0 a1 b0 b1 c t1 t2 t3 t4 t5 t6 t7 t8 t9 t10 t11 t12 t13 t14 t15 = true → ref_Sub.c0 none (fun q => some (k q)) a0 a1 b0 b1 c t1 t2 t3 t4 t5 t6 t7 t8 t9 t10 t11 t12 t13 t14 t15 = some (k (ref_Sub.c0 (0, 0) id a0 a1 b0 b1 c t1 t2 t3 t4 t5 t6 t7 t8 t9 t10 t11 t12 t13 t14 t15)) := by
  unfold ref_Sub.c0; (repeat' (first | (apply pn k) | (exact pn_none _ _) | (exact pn_leaf k _)))
theorem ref_Sub.p {γ : Type} (k : Int × Int → γ) (a0 : Int) (a1 : Int) (b0 : Int) (b1 : Int) (c : Bool) (h : ref_Sub.ok a0 a1 b0 b1 c = true) : ref_Sub.c none (fun q => some (k q)) a0 a1 b0 b1 c = some (k (ref_Sub a0 a1 b0 b1 c)) :=
  let t1 := ref_number a0 a1; let t2 := ref_number b0 b1; let t3 := IntKind.i64.wrap (t1 - t2); let t4 := ref_Const t3; let t5 := ref_r.ok b0 b1; let t6 := ref_r.ok a0 a1; let t7 := ref_of a0; let t8 := ref_of b0; let t9 := ref_gcd.g t7.fst t7.snd t8.fst t8.snd; let t10 := ref_r a0 a1; let t11 := ref_r b0 b1; let t12 := ref_sum t10.fst t10.snd.fst t10.snd.snd t11.fst t11.snd.fst !t11.snd.snd; let t13 := ref_gcd t7.fst t7.snd t8.fst t8.snd; let t14 := ref_by.ok t12.fst t12.snd.fst t12.snd.snd t13.fst t13.snd c; let t15 := ref_by t12.fst t12.snd.fst t12.snd.snd t13.fst t13.snd c; ref_Sub.p0 k a0 a1 b0 b1 c t1 t2 t3 t4 t5 t6 t7 t8 t9 t10 t11 t12 t13 t14 t15 h
theorem ref_Sub.r (a0 : Int) (a1 : Int) (b0 : Int) (b1 : Int) (c : Bool) : runF P G (tab L_ref_Add) { merge := true } 60 Tryd.f31 [.agg #[.int .u64 a0, .int .u64 a1], .agg #[.int .u64 b0, .int .u64 b1], .bool c] = ref_Sub.c none (fun q => some (.agg #[.int .u64 (q).1, .int .u64 (q).2] : Value)) a0 a1 b0 b1 c := by kernel_rfl
theorem ref_Sub.t : TabOK P G (tab L_ref_Sub) :=
  TabOK_mk C ref_Add.t Tryd.func31 (by kernel_rfl) true 60 (by
    rintro ⟨⟨a0, ⟨a1, ⟨⟩⟩⟩, ⟨⟨b0, ⟨b1, ⟨⟩⟩⟩, ⟨c, ⟨⟩⟩⟩⟩ h
    exact (ref_Sub.r a0 a1 b0 b1 c).trans (ref_Sub.p (fun q => (.agg #[.int .u64 (q).1, .int .u64 (q).2] : Value)) a0 a1 b0 b1 c h))

def ref_Mul.c0 {γ : Type} (n : γ) (k : Int × Int → γ) (a0 : Int) (a1 : Int) (b0 : Int) (b1 : Int) (c : Bool) (t1 : Int) (t2 : Int) (t3 : Int) (t4 : Int × Int) (t5 : Bool) (t6 : Bool) (t7 : Bool) (t8 : Int × Int × Bool) (t9 : Bool) (t10 : Int × Int × Bool) (t11 : Bool) (t12 : Int × Int) (t13 : Int × Int) (t14 : Bool) (t15 : Int × Int) (t16 : Int × Int) (t17 : Bool) (t18 : Bool) (t19 : Int × Int) (t20 : Int × Int) (t21 : Bool) (t22 : Int × Int) : γ := bif a0 == 0
  then bif b0 == 0
   then k (t4.fst, t4.snd)
   else bif a0 == 0 && (a1 == 0 && true)
    then k (0, 0)
    else bif b0 == 0 && (b1 == 0 && true)
     then k (0, 0)
     else bif t5
      then bif t6
       then bif t7
        then bif t9
         then bif t11
          then bif t14
           then bif t17
            then bif t18
             then bif t21
              then k (t22.fst, t22.snd)
              else n
             else n
            else n
           else n
          else n
         else n
        else n
       else n
      else n
  else bif a0 == 0 && (a1 == 0 && true)
   then k (0, 0)
   else bif b0 == 0 && (b1 == 0 && true)
    then k (0, 0)
    else bif t5
     then bif t6
      then bif t7
       then bif t9
        then bif t11
         then bif t14
          then bif t17
           then bif t18
            then bif t21
             then k (t22.fst, t22.snd)
             else n
            else n
           else n
          else n
         else n
        else n
       else n
      else n
     else n
def ref_Mul.c {γ : Type} (n : γ) (k : Int × Int → γ) (a0 : Int) (a1 : Int) (b0 : Int) (b1 : Int) (c : Bool) : γ := let t1 := ref_number a0 a1; let t2 := ref_number b0 b1; let t3 := IntKind.i64.wrap (t1 * t2); let t4 := ref_Const t3; let t5 := ref_r.ok a0 a1; let t6 := ref_r.ok b0 b1; let t7 := ref_times.g a0 b0; let t8 := ref_r a0 a1; let t9 := ref_times.g t8.snd.fst b0; let t10 := ref_r b0 b1; let t11 := ref_times.g t10.snd.fst a0; let t12 := ref_times t8.snd.fst b0; let t13 := ref_times t10.snd.fst a0; let t14 := ref_gcd.g t12.fst t12.snd t13.fst t13.snd; let t15 := ref_times a0 b0; let t16 := ref_gcd t12.fst t12.snd t13.fst t13.snd; let t17 := ref_gcd.g t15.fst t15.snd t16.fst t16.snd; let t18 := ref_times.g t8.snd.fst t10.snd.fst; let t19 := ref_times t8.snd.fst t10.snd.fst; let t20 := ref_gcd t15.fst t15.snd t16.fst t16.snd; let t21 := ref_by.ok t19.fst t19.snd (!t8.snd.snd == t10.snd.snd) t20.fst t20.snd c; let t22 := ref_by t19.fst t19.snd (!t8.snd.snd == t10.snd.snd) t20.fst t20.snd c; ref_Mul.c0 n k a0 a1 b0 b1 c t1 t2 t3 t4 t5 t6 t7 t8 t9 t10 t11 t12 t13 t14 t15 t16 t17 t18 t19 t20 t21 t22
def ref_Mul.ok (a0 : Int) (a1 : Int) (b0 : Int) (b1 : Int) (c : Bool) : Bool := ref_Mul.c false (fun _ => true) a0 a1 b0 b1 c
def ref_Mul (a0 : Int) (a1 : Int) (b0 : Int) (b1 : Int) (c : Bool) : Int × Int := ref_Mul.c (0, 0) id a0 a1 b0 b1 c
def ref_Mul.F : FV := mkF (cP (cA (cP (cI .u64) (cP (cI .u64) cU))) (cP (cA (cP (cI .u64) (cP (cI .u64) cU))) (cP cB cU))) (fun | ((a0, (a1, ())), ((b0, (b1, ())), (c, ()))) => ref_Mul.ok a0 a1 b0 b1 c) (fun | ((a0, (a1, ())), ((b0, (b1, ())), (c, ()))) => .agg #[.int .u64 (ref_Mul a0 a1 b0 b1 c).1, .int .u64 (ref_Mul a0 a1 b0 b1 c).2])
def L_ref_Mul : TL := (33, ref_Mul.F) :: L_ref_Sub
theorem ref_Mul.p0 {γ : Type} (k : Int × Int → γ) (a0 : Int) (a1 : Int) (b0 : Int) (b1 : Int) (c : Bool) (t1 : Int) (t2 : Int) (t3 : Int) (t4 : Int × Int) (t5 : Bool) (t6 : Bool) (t7 : Bool) (t8 : Int × Int × Bool) (t9 : Bool) (t10 : Int × Int × Bool) (t11 : Bool) (t12 : Int × Int) (t13 : Int × Int) (t14 : Bool) (t15 : Int × Int) (t16 : Int × Int) (t17 : Bool) (t18 : Bool) (t19 : Int × Int) (t20 : Int × Int) (t21 : Bool) (t22 : Int × Int) : ref_Mul.c0 false (fun _ => true) a0 a1 b0 b1 c t1 t2 t3 t4 t5 t6 t7 t8 t9 t10 t11 t12 t13 t14 t15 t16 t17 t18 t19 t20 t21 t22 = true → ref_Mul.c0 none (fun q => some (k q)) a0 a1 b0 b1 c t1 t2 t3 t4 t5 t6 t7 t8 t9 t10 t11 t12 t13 t14 t15 t16 t17 t18 t19 t20 t21 t22 = some (k (ref_Mul.c0 (0, 0) id a0 a1 b0 b1 c t1 t2 t3 t4 t5 t6 t7 t8 t9 t10 t11 t12 t13 t14 t15 t16 t17 t18 t19 t20 t21 t22)) := by
  unfold ref_Mul.c0; (repeat' (first | (apply pn k) | (exact pn_none _ _) | (exact pn_leaf k _)))
theorem ref_Mul.p {γ : Type} (k : Int × Int → γ) (a0 : Int) (a1 : Int) (b0 : Int) (b1 : Int) (c : Bool) (h : ref_Mul.ok a0 a1 b0 b1 c = true) : ref_Mul.c none (fun q => some (k q)) a0 a1 b0 b1 c = some (k (ref_Mul a0 a1 b0 b1 c)) :=
  let t1 := ref_number a0 a1; let t2 := ref_number b0 b1; let t3 := IntKind.i64.wrap (t1 * t2); let t4 := ref_Const t3; let t5 := ref_r.ok a0 a1; let t6 := ref_r.ok b0 b1; let t7 := ref_times.g a0 b0; let t8 := ref_r a0 a1; let t9 := ref_times.g t8.snd.fst b0; let t10 := ref_r b0 b1; let t11 := ref_times.g t10.snd.fst a0; let t12 := ref_times t8.snd.fst b0; let t13 := ref_times t10.snd.fst a0; let t14 := ref_gcd.g t12.fst t12.snd t13.fst t13.snd; let t15 := ref_times a0 b0; let t16 := ref_gcd t12.fst t12.snd t13.fst t13.snd; let t17 := ref_gcd.g t15.fst t15.snd t16.fst t16.snd; let t18 := ref_times.g t8.snd.fst t10.snd.fst; let t19 := ref_times t8.snd.fst t10.snd.fst; let t20 := ref_gcd t15.fst t15.snd t16.fst t16.snd; let t21 := ref_by.ok t19.fst t19.snd (!t8.snd.snd == t10.snd.snd) t20.fst t20.snd c; let t22 := ref_by t19.fst t19.snd (!t8.snd.snd == t10.snd.snd) t20.fst t20.snd c; ref_Mul.p0 k a0 a1 b0 b1 c t1 t2 t3 t4 t5 t6 t7 t8 t9 t10 t11 t12 t13 t14 t15 t16 t17 t18 t19 t20 t21 t22 h
theorem ref_Mul.r (a0 : Int) (a1 : Int) (b0 : Int) (b1 : Int) (c : Bool) : runF P G (tab L_ref_Sub) { merge := true } 60 Tryd.f33 [.agg #[.int .u64 a0, .int .u64 a1], .agg #[.int .u64 b0, .int .u64 b1], .bool c] = ref_Mul.c none (fun q => some (.agg #[.int .u64 (q).1, .int .u64 (q).2] : Value)) a0 a1 b0 b1 c := by kernel_rfl
theorem ref_Mul.t : TabOK P G (tab L_ref_Mul) :=
  TabOK_mk C ref_Sub.t Tryd.func33 (by kernel_rfl) true 60 (by
    rintro ⟨⟨a0, ⟨a1, ⟨⟩⟩⟩, ⟨⟨b0, ⟨b1, ⟨⟩⟩⟩, ⟨c, ⟨⟩⟩⟩⟩ h
    exact (ref_Mul.r a0 a1 b0 b1 c).trans (ref_Mul.p (fun q => (.agg #[.int .u64 (q).1, .int .u64 (q).2] : Value)) a0 a1 b0 b1 c h))

def ref_Div.c0 {γ : Type} (n : γ) (k : Int × Int → γ) (a0 : Int) (a1 : Int) (b0 : Int) (b1 : Int) (t1 : Int) (t2 : Int) (t3 : Int) (t4 : Int × Int) (t5 : Int) (t6 : Int × Int) (t7 : Int) (t8 : Int × Int) (t9 : Int) (t10 : Int × Int) (t11 : Int) (t12 : Bool) (t13 : Int × Int) : γ := bif decide (b0 > 0)
  then k (1, 0)
  else bif t1 == 0
   then k (1, 0)
   else bif a0 == 0
    then bif t1 == -1
     then k (t4.fst, t4.snd)
     else bif !decide (t1 = 0)
      then k (t6.fst, t6.snd)
      else n
    else bif t1 == -1
     then k (1, 0)
     else bif !decide (t7 = 0)
      then bif t8.fst.tmod t7 != 0
       then k (1, 0)
       else bif !decide (t7 = 0)
        then bif t8.snd.tmod t7 != 0
         then k (1, 0)
         else bif !decide (t7 = 0)
          then bif !decide (t7 = 0)
           then bif t12
            then k (t13.fst, t13.snd)
            else n
           else n
          else n
        else n
      else n
def ref_Div.c {γ : Type} (n : γ) (k : Int × Int → γ) (a0 : Int) (a1 : Int) (b0 : Int) (b1 : Int) : γ := let t1 := ref_number b0 b1; let t2 := ref_number a0 a1; let t3 := IntKind.i64.wrap (0 - t2); let t4 := ref_Const t3; let t5 := IntKind.i64.wrap (t2.tdiv t1); let t6 := ref_Const t5; let t7 := ref_far t1; let t8 := ref_Norm a0 a1; let t9 := IntKind.u64.wrap (t8.snd.tdiv t7); let t10 := ref_of t9; let t11 := IntKind.u64.wrap (t8.fst.tdiv t7); let t12 := ref_class.ok t10.fst t10.snd (decide (t1 < 0)) t11; let t13 := ref_class t10.fst t10.snd (decide (t1 < 0)) t11; ref_Div.c0 n k a0 a1 b0 b1 t1 t2 t3 t4 t5 t6 t7 t8 t9 t10 t11 t12 t13
def ref_Div.ok (a0 : Int) (a1 : Int) (b0 : Int) (b1 : Int) : Bool := ref_Div.c false (fun _ => true) a0 a1 b0 b1
def ref_Div (a0 : Int) (a1 : Int) (b0 : Int) (b1 : Int) : Int × Int := ref_Div.c (0, 0) id a0 a1 b0 b1
def ref_Div.F : FV := mkF (cP (cA (cP (cI .u64) (cP (cI .u64) cU))) (cP (cA (cP (cI .u64) (cP (cI .u64) cU))) cU)) (fun | ((a0, (a1, ())), ((b0, (b1, ())), ())) => ref_Div.ok a0 a1 b0 b1) (fun | ((a0, (a1, ())), ((b0, (b1, ())), ())) => .agg #[.int .u64 (ref_Div a0 a1 b0 b1).1, .int .u64 (ref_Div a0 a1 b0 b1).2])
def L_ref_Div : TL := (35, ref_Div.F) :: L_ref_Mul
theorem ref_Div.p0 {γ : Type} (k : Int × Int → γ) (a0 : Int) (a1 : Int) (b0 : Int) (b1 : Int) (t1 : Int) (t2 : Int) (t3 : Int) (t4 : Int × Int) (t5 : Int) (t6 : Int × Int) (t7 : Int) (t8 : Int × Int) (t9 : Int) (t10 : Int × Int) (t11 : Int) (t12 : Bool) (t13 : Int × Int) : ref_Div.c0 false (fun _ => true) a0 a1 b0 b1 t1 t2 t3 t4 t5 t6 t7 t8 t9 t10 t11 t12 t13 = true → ref_Div.c0 none (fun q => some (k q)) a0 a1 b0 b1 t1 t2 t3 t4 t5 t6 t7 t8 t9 t10 t11 t12 t13 = some (k (ref_Div.c0 (0, 0) id a0 a1 b0 b1 t1 t2 t3 t4 t5 t6 t7 t8 t9 t10 t11 t12 t13)) := by
  unfold ref_Div.c0; (repeat' (first | (apply pn k) | (exact pn_none _ _) | (exact pn_leaf k _)))
theorem ref_Div.p {γ : Type} (k : Int × Int → γ) (a0 : Int) (a1 : Int) (b0 : Int) (b1 : Int) (h : ref_Div.ok a0 a1 b0 b1 = true) : ref_Div.c none (fun q => some (k q)) a0 a1 b0 b1 = some (k (ref_Div a0 a1 b0 b1)) :=
  let t1 := ref_number b0 b1; let t2 := ref_number a0 a1; let t3 := IntKind.i64.wrap (0 - t2); let t4 := ref_Const t3; let t5 := IntKind.i64.wrap (t2.tdiv t1); let t6 := ref_Const t5; let t7 := ref_far t1; let t8 := ref_Norm a0 a1; let t9 := IntKind.u64.wrap (t8.snd.tdiv t7); let t10 := ref_of t9; let t11 := IntKind.u64.wrap (t8.fst.tdiv t7); let t12 := ref_class.ok t10.fst t10.snd (decide (t1 < 0)) t11; let t13 := ref_class t10.fst t10.snd (decide (t1 < 0)) t11; ref_Div.p0 k a0 a1 b0 b1 t1 t2 t3 t4 t5 t6 t7 t8 t9 t10 t11 t12 t13 h
theorem ref_Div.r (a0 : Int) (a1 : Int) (b0 : Int) (b1 : Int) : runF P G (tab L_ref_Mul) { merge := true } 60 Tryd.f35 [.agg #[.int .u64 a0, .int .u64 a1], .agg #[.int .u64 b0, .int .u64 b1]] = ref_Div.c none (fun q => some (.agg #[.int .u64 (q).1, .int .u64 (q).2] : Value)) a0 a1 b0 b1 := by kernel_rfl
theorem ref_Div.t : TabOK P G (tab L_ref_Div) :=
  TabOK_mk C ref_Mul.t Tryd.func35 (by kernel_rfl) true 60 (by
    rintro ⟨⟨a0, ⟨a1, ⟨⟩⟩⟩, ⟨⟨b0, ⟨b1, ⟨⟩⟩⟩, ⟨⟩⟩⟩ h
    exact (ref_Div.r a0 a1 b0 b1).trans (ref_Div.p (fun q => (.agg #[.int .u64 (q).1, .int .u64 (q).2] : Value)) a0 a1 b0 b1 h))

def ref_Rem.c0 {γ : Type} (n : γ) (k : Int × Int → γ) (a0 : Int) (a1 : Int) (b0 : Int) (b1 : Int) (t1 : Int) (t2 : Int × Int) (t3 : Int) (t4 : Int × Int) (t5 : Int × Int) (t6 : Int × Int) (t7 : Bool) (t8 : Bool) (t9 : Int × Int) (t10 : Int × Int × Bool) (t11 : Bool) (t12 : Bool) (t13 : Int × Int × Bool) (t14 : Int × Int) (t15 : Bool) (t16 : Int × Int) : γ := bif b0 == 0 && (b1 == 0 && true)
  then k (1, 0)
  else bif a0 == 0
   then bif b0 == 0
    then bif t1 == -1
     then k (t2.fst, t2.snd)
     else bif !decide (t1 = 0)
      then k (t4.fst, t4.snd)
      else n
    else bif t7
     then bif t8
      then bif t11
       then bif t12
        then bif t15
         then k (t16.fst, t16.snd)
         else n
        else n
       else n
      else n
     else n
   else bif t7
    then bif t8
     then bif t11
      then bif t12
       then bif t15
        then k (t16.fst, t16.snd)
        else n
       else n
      else n
     else n
    else n
def ref_Rem.c {γ : Type} (n : γ) (k : Int × Int → γ) (a0 : Int) (a1 : Int) (b0 : Int) (b1 : Int) : γ := let t1 := ref_number b0 b1; let t2 := ref_Const 0; let t3 := ref_number a0 a1; let t4 := ref_Const (t3.tmod t1); let t5 := ref_of a0; let t6 := ref_of b0; let t7 := ref_gcd.g t5.fst t5.snd t6.fst t6.snd; let t8 := ref_r.ok b0 b1; let t9 := ref_gcd t5.fst t5.snd t6.fst t6.snd; let t10 := ref_r b0 b1; let t11 := ref_gcd.g t9.fst t9.snd t10.fst t10.snd.fst; let t12 := ref_r.ok a0 a1; let t13 := ref_r a0 a1; let t14 := ref_gcd t9.fst t9.snd t10.fst t10.snd.fst; let t15 := ref_class.ok t13.fst t13.snd.fst t13.snd.snd t14.snd; let t16 := ref_class t13.fst t13.snd.fst t13.snd.snd t14.snd; ref_Rem.c0 n k a0 a1 b0 b1 t1 t2 t3 t4 t5 t6 t7 t8 t9 t10 t11 t12 t13 t14 t15 t16
def ref_Rem.ok (a0 : Int) (a1 : Int) (b0 : Int) (b1 : Int) : Bool := ref_Rem.c false (fun _ => true) a0 a1 b0 b1
def ref_Rem (a0 : Int) (a1 : Int) (b0 : Int) (b1 : Int) : Int × Int := ref_Rem.c (0, 0) id a0 a1 b0 b1
def ref_Rem.F : FV := mkF (cP (cA (cP (cI .u64) (cP (cI .u64) cU))) (cP (cA (cP (cI .u64) (cP (cI .u64) cU))) cU)) (fun | ((a0, (a1, ())), ((b0, (b1, ())), ())) => ref_Rem.ok a0 a1 b0 b1) (fun | ((a0, (a1, ())), ((b0, (b1, ())), ())) => .agg #[.int .u64 (ref_Rem a0 a1 b0 b1).1, .int .u64 (ref_Rem a0 a1 b0 b1).2])
def L_ref_Rem : TL := (37, ref_Rem.F) :: L_ref_Div
theorem ref_Rem.p0 {γ : Type} (k : Int × Int → γ) (a0 : Int) (a1 : Int) (b0 : Int) (b1 : Int) (t1 : Int) (t2 : Int × Int) (t3 : Int) (t4 : Int × Int) (t5 : Int × Int) (t6 : Int × Int) (t7 : Bool) (t8 : Bool) (t9 : Int × Int) (t10 : Int × Int × Bool) (t11 : Bool) (t12 : Bool) (t13 : Int × Int × Bool) (t14 : Int × Int) (t15 : Bool) (t16 : Int × Int) : ref_Rem.c0 false (fun _ => true) a0 a1 b0 b1 t1 t2 t3 t4 t5 t6 t7 t8 t9 t10 t11 t12 t13 t14 t15 t16 = true → ref_Rem.c0 none (fun q => some (k q)) a0 a1 b0 b1 t1 t2 t3 t4 t5 t6 t7 t8 t9 t10 t11 t12 t13 t14 t15 t16 = some (k (ref_Rem.c0 (0, 0) id a0 a1 b0 b1 t1 t2 t3 t4 t5 t6 t7 t8 t9 t10 t11 t12 t13 t14 t15 t16)) := by
  unfold ref_Rem.c0; (repeat' (first | (apply pn k) | (exact pn_none _ _) | (exact pn_leaf k _)))
theorem ref_Rem.p {γ : Type} (k : Int × Int → γ) (a0 : Int) (a1 : Int) (b0 : Int) (b1 : Int) (h : ref_Rem.ok a0 a1 b0 b1 = true) : ref_Rem.c none (fun q => some (k q)) a0 a1 b0 b1 = some (k (ref_Rem a0 a1 b0 b1)) :=
  let t1 := ref_number b0 b1; let t2 := ref_Const 0; let t3 := ref_number a0 a1; let t4 := ref_Const (t3.tmod t1); let t5 := ref_of a0; let t6 := ref_of b0; let t7 := ref_gcd.g t5.fst t5.snd t6.fst t6.snd; let t8 := ref_r.ok b0 b1; let t9 := ref_gcd t5.fst t5.snd t6.fst t6.snd; let t10 := ref_r b0 b1; let t11 := ref_gcd.g t9.fst t9.snd t10.fst t10.snd.fst; let t12 := ref_r.ok a0 a1; let t13 := ref_r a0 a1; let t14 := ref_gcd t9.fst t9.snd t10.fst t10.snd.fst; let t15 := ref_class.ok t13.fst t13.snd.fst t13.snd.snd t14.snd; let t16 := ref_class t13.fst t13.snd.fst t13.snd.snd t14.snd; ref_Rem.p0 k a0 a1 b0 b1 t1 t2 t3 t4 t5 t6 t7 t8 t9 t10 t11 t12 t13 t14 t15 t16 h
theorem ref_Rem.r (a0 : Int) (a1 : Int) (b0 : Int) (b1 : Int) : runF P G (tab L_ref_Div) { merge := true } 60 Tryd.f37 [.agg #[.int .u64 a0, .int .u64 a1], .agg #[.int .u64 b0, .int .u64 b1]] = ref_Rem.c none (fun q => some (.agg #[.int .u64 (q).1, .int .u64 (q).2] : Value)) a0 a1 b0 b1 := by kernel_rfl
theorem ref_Rem.t : TabOK P G (tab L_ref_Rem) :=
  TabOK_mk C ref_Div.t Tryd.func37 (by kernel_rfl) true 60 (by
    rintro ⟨⟨a0, ⟨a1, ⟨⟩⟩⟩, ⟨⟨b0, ⟨b1, ⟨⟩⟩⟩, ⟨⟩⟩⟩ h
    exact (ref_Rem.r a0 a1 b0 b1).trans (ref_Rem.p (fun q => (.agg #[.int .u64 (q).1, .int .u64 (q).2] : Value)) a0 a1 b0 b1 h))

def law_some.c0 {γ : Type} (n : γ) (k : Int × Bool → γ) (a0 : Int) (a1 : Int) (b : Int) (t1 : Int) (t2 : Bool) (t3 : Int) (t4 : Int) (t5 : Int) (t6 : Int) (t7 : Int) (t8 : Int) (t9 : Int) (t10 : Int) (t11 : Int) (t12 : Int) (t13 : Int) (t14 : Int) (t15 : Int) (t16 : Int) (t17 : Int) (t18 : Int) : γ := bif a0 == 0
  then k (t1, true)
  else bif t2
   then bif !decide (a0 = 0)
    then bif decide (t3 ≥ a1.tmod a0)
     then bif decide (t4 ≤ t6)
      then k (t8, true)
      else k (t11, decide (t9 ≤ t12))
     else bif decide (t13 ≤ t12)
      then k (t15, true)
      else k (t18, decide (t16 ≤ t6))
    else n
   else n
def law_some.c {γ : Type} (n : γ) (k : Int × Bool → γ) (a0 : Int) (a1 : Int) (b : Int) : γ := let t1 := IntKind.i64.wrap a1; let t2 := law_rest.ok b a0; let t3 := law_rest b a0; let t4 := IntKind.u64.wrap (t3 - a1.tmod a0); let t5 := IntKind.u64.wrap b; let t6 := IntKind.u64.wrap (t5 - 9223372036854775808); let t7 := IntKind.u64.wrap (t5 - t4); let t8 := IntKind.i64.wrap t7; let t9 := IntKind.u64.wrap (a0 - t4); let t10 := IntKind.u64.wrap (t5 + t9); let t11 := IntKind.i64.wrap t10; let t12 := IntKind.u64.wrap (9223372036854775807 - t5); let t13 := IntKind.u64.wrap (a1.tmod a0 - t3); let t14 := IntKind.u64.wrap (t5 + t13); let t15 := IntKind.i64.wrap t14; let t16 := IntKind.u64.wrap (a0 - t13); let t17 := IntKind.u64.wrap (t5 - t16); let t18 := IntKind.i64.wrap t17; law_some.c0 n k a0 a1 b t1 t2 t3 t4 t5 t6 t7 t8 t9 t10 t11 t12 t13 t14 t15 t16 t17 t18
def law_some.ok (a0 : Int) (a1 : Int) (b : Int) : Bool := law_some.c false (fun _ => true) a0 a1 b
def law_some (a0 : Int) (a1 : Int) (b : Int) : Int × Bool := law_some.c (0, false) id a0 a1 b
def law_some.F : FV := mkF (cP (cA (cP (cI .u64) (cP (cI .u64) cU))) (cP (cI .i64) cU)) (fun | ((a0, (a1, ())), (b, ())) => law_some.ok a0 a1 b) (fun | ((a0, (a1, ())), (b, ())) => .tuple #[.int .i64 (law_some a0 a1 b).1, .bool (law_some a0 a1 b).2])
def L_law_some : TL := (38, law_some.F) :: L_ref_Rem
theorem law_some.p0 {γ : Type} (k : Int × Bool → γ) (a0 : Int) (a1 : Int) (b : Int) (t1 : Int) (t2 : Bool) (t3 : Int) (t4 : Int) (t5 : Int) (t6 : Int) (t7 : Int) (t8 : Int) (t9 : Int) (t10 : Int) (t11 : Int) (t12 : Int) (t13 : Int) (t14 : Int) (t15 : Int) (t16 : Int) (t17 : Int) (t18 : Int) : law_some.c0 false (fun _ => true) a0 a1 b t1 t2 t3 t4 t5 t6 t7 t8 t9 t10 t11 t12 t13 t14 t15 t16 t17 t18 = true → law_some.c0 none (fun q => some (k q)) a0 a1 b t1 t2 t3 t4 t5 t6 t7 t8 t9 t10 t11 t12 t13 t14 t15 t16 t17 t18 = some (k (law_some.c0 (0, false) id a0 a1 b t1 t2 t3 t4 t5 t6 t7 t8 t9 t10 t11 t12 t13 t14 t15 t16 t17 t18)) := by
  unfold law_some.c0; (repeat' (first | (apply pn k) | (exact pn_none _ _) | (exact pn_leaf k _)))
theorem law_some.p {γ : Type} (k : Int × Bool → γ) (a0 : Int) (a1 : Int) (b : Int) (h : law_some.ok a0 a1 b = true) : law_some.c none (fun q => some (k q)) a0 a1 b = some (k (law_some a0 a1 b)) :=
  let t1 := IntKind.i64.wrap a1; let t2 := law_rest.ok b a0; let t3 := law_rest b a0; let t4 := IntKind.u64.wrap (t3 - a1.tmod a0); let t5 := IntKind.u64.wrap b; let t6 := IntKind.u64.wrap (t5 - 9223372036854775808); let t7 := IntKind.u64.wrap (t5 - t4); let t8 := IntKind.i64.wrap t7; let t9 := IntKind.u64.wrap (a0 - t4); let t10 := IntKind.u64.wrap (t5 + t9); let t11 := IntKind.i64.wrap t10; let t12 := IntKind.u64.wrap (9223372036854775807 - t5); let t13 := IntKind.u64.wrap (a1.tmod a0 - t3); let t14 := IntKind.u64.wrap (t5 + t13); let t15 := IntKind.i64.wrap t14; let t16 := IntKind.u64.wrap (a0 - t13); let t17 := IntKind.u64.wrap (t5 - t16); let t18 := IntKind.i64.wrap t17; law_some.p0 k a0 a1 b t1 t2 t3 t4 t5 t6 t7 t8 t9 t10 t11 t12 t13 t14 t15 t16 t17 t18 h
theorem law_some.r (a0 : Int) (a1 : Int) (b : Int) : runF P G (tab L_ref_Rem) { merge := true } 60 Tryd.f38 [.agg #[.int .u64 a0, .int .u64 a1], .int .i64 b] = law_some.c none (fun q => some (.tuple #[.int .i64 (q).1, .bool (q).2] : Value)) a0 a1 b := by kernel_rfl
theorem law_some.t : TabOK P G (tab L_law_some) :=
  TabOK_mk C ref_Rem.t Tryd.func38 (by kernel_rfl) true 60 (by
    rintro ⟨⟨a0, ⟨a1, ⟨⟩⟩⟩, ⟨b, ⟨⟩⟩⟩ h
    exact (law_some.r a0 a1 b).trans (law_some.p (fun q => (.tuple #[.int .i64 (q).1, .bool (q).2] : Value)) a0 a1 b h))

def law_wraps.c0 {γ : Type} (n : γ) (k : Bool → γ) (a : Int) (b : Int) (c : Int) (t1 : Int) (t2 : Int) (t3 : Int) (t4 : Int) (t5 : Int) (t6 : Int) : γ := bif a == 0
  then bif decide (c > 0)
   then bif decide (b > t1)
    then k (true)
    else bif decide (c < 0)
     then k (decide (b < t2))
     else k (false)
   else bif decide (c < 0)
    then k (decide (b < t2))
    else k (false)
  else bif a == 1
   then bif decide (c < 0)
    then bif decide (b > t3)
     then k (true)
     else bif decide (c > 0)
      then k (decide (b < t4))
      else k (false)
    else bif decide (c > 0)
     then k (decide (b < t4))
     else k (false)
   else bif b == -1
    then bif c == -9223372036854775808
     then k (true)
     else bif c == -1
      then bif b == -9223372036854775808
       then k (true)
       else bif b != 0
        then bif b != -1
         then bif !decide (b = 0)
          then k (t6 != c)
          else n
         else k (false)
        else k (false)
      else bif b != 0
       then bif b != -1
        then bif !decide (b = 0)
         then k (t6 != c)
         else n
        else k (false)
       else k (false)
    else bif c == -1
     then bif b == -9223372036854775808
      then k (true)
      else bif b != 0
       then bif b != -1
        then bif !decide (b = 0)
         then k (t6 != c)
         else n
        else k (false)
       else k (false)
     else bif b != 0
      then bif b != -1
       then bif !decide (b = 0)
        then k (t6 != c)
        else n
       else k (false)
      else k (false)
def law_wraps.c {γ : Type} (n : γ) (k : Bool → γ) (a : Int) (b : Int) (c : Int) : γ := let t1 := IntKind.i64.wrap (9223372036854775807 - c); let t2 := IntKind.i64.wrap (-9223372036854775808 - c); let t3 := IntKind.i64.wrap (9223372036854775807 + c); let t4 := IntKind.i64.wrap (-9223372036854775808 + c); let t5 := IntKind.i64.wrap (b * c); let t6 := IntKind.i64.wrap (t5.tdiv b); law_wraps.c0 n k a b c t1 t2 t3 t4 t5 t6
def law_wraps.ok (a : Int) (b : Int) (c : Int) : Bool := law_wraps.c false (fun _ => true) a b c
def law_wraps (a : Int) (b : Int) (c : Int) : Bool := law_wraps.c (false) id a b c
def law_wraps.F : FV := mkF (cP (cI .i64) (cP (cI .i64) (cP (cI .i64) cU))) (fun | (a, (b, (c, ()))) => law_wraps.ok a b c) (fun | (a, (b, (c, ()))) => .bool (law_wraps a b c))
def L_law_wraps : TL := (39, law_wraps.F) :: L_law_some
theorem law_wraps.p0 {γ : Type} (k : Bool → γ) (a : Int) (b : Int) (c : Int) (t1 : Int) (t2 : Int) (t3 : Int) (t4 : Int) (t5 : Int) (t6 : Int) : law_wraps.c0 false (fun _ => true) a b c t1 t2 t3 t4 t5 t6 = true → law_wraps.c0 none (fun q => some (k q)) a b c t1 t2 t3 t4 t5 t6 = some (k (law_wraps.c0 (false) id a b c t1 t2 t3 t4 t5 t6)) := by
  unfold law_wraps.c0; (repeat' (first | (apply pn k) | (exact pn_none _ _) | (exact pn_leaf k _)))
theorem law_wraps.p {γ : Type} (k : Bool → γ) (a : Int) (b : Int) (c : Int) (h : law_wraps.ok a b c = true) : law_wraps.c none (fun q => some (k q)) a b c = some (k (law_wraps a b c)) :=
  let t1 := IntKind.i64.wrap (9223372036854775807 - c); let t2 := IntKind.i64.wrap (-9223372036854775808 - c); let t3 := IntKind.i64.wrap (9223372036854775807 + c); let t4 := IntKind.i64.wrap (-9223372036854775808 + c); let t5 := IntKind.i64.wrap (b * c); let t6 := IntKind.i64.wrap (t5.tdiv b); law_wraps.p0 k a b c t1 t2 t3 t4 t5 t6 h
theorem law_wraps.r (a : Int) (b : Int) (c : Int) : runF P G (tab L_law_some) { merge := true } 60 Tryd.f39 [.int .i64 a, .int .i64 b, .int .i64 c] = law_wraps.c none (fun q => some (.bool (q) : Value)) a b c := by kernel_rfl
theorem law_wraps.t : TabOK P G (tab L_law_wraps) :=
  TabOK_mk C law_some.t Tryd.func39 (by kernel_rfl) true 60 (by
    rintro ⟨a, ⟨b, ⟨c, ⟨⟩⟩⟩⟩ h
    exact (law_wraps.r a b c).trans (law_wraps.p (fun q => (.bool (q) : Value)) a b c h))

def law_CongOps.c0 {γ : Type} (n : γ) (k : Bool → γ) (a0 : Int) (a1 : Int) (b0 : Int) (b1 : Int) (c : Bool) (t1 : Bool) (t2 : Bool) (t3 : Int × Int) (t4 : Int × Int) (t5 : Bool) (t6 : Bool) (t7 : Int × Int) (t8 : Int × Int) (t9 : Bool) (t10 : Bool) (t11 : Int × Int) (t12 : Int × Int) (t13 : Bool) (t14 : Bool) (t15 : Int × Int) (t16 : Int × Int) (t17 : Bool) (t18 : Bool) (t19 : Int × Int) (t20 : Int × Int) (t21 : Bool) (t22 : Bool) (t23 : Int × Int) (t24 : Int × Int) : γ := bif law_works.ok
  then bif !law_works
   then k (false)
   else bif t1
    then bif t2
     then bif !(t3.fst == t4.fst && (t3.snd == t4.snd && true))
      then k (false)
      else bif t5
       then bif t6
        then bif !(t7.fst == t8.fst && (t7.snd == t8.snd && true))
         then k (false)
         else bif t9
          then bif t10
           then bif !(t11.fst == t12.fst && (t11.snd == t12.snd && true))
            then k (false)
            else bif t13
             then bif t14
              then bif t15.fst == t16.fst && (t15.snd == t16.snd && true)
               then bif t17
                then bif t18
                 then bif t19.fst == t20.fst && (t19.snd == t20.snd && true)
                  then bif t21
                   then bif t22
                    then k (t23.fst == t24.fst && (t23.snd == t24.snd && true))
                    else n
                   else n
                  else k (false)
                 else n
                else n
               else k (false)
              else n
             else n
           else n
          else n
        else n
       else n
     else n
    else n
  else n
def law_CongOps.c {γ : Type} (n : γ) (k : Bool → γ) (a0 : Int) (a1 : Int) (b0 : Int) (b1 : Int) (c : Bool) : γ := let t1 := cong_Neg.ok a0 a1 c; let t2 := ref_Neg.ok a0 a1 c; let t3 := cong_Neg a0 a1 c; let t4 := ref_Neg a0 a1 c; let t5 := cong_Add.ok a0 a1 b0 b1 c; let t6 := ref_Add.ok a0 a1 b0 b1 c; let t7 := cong_Add a0 a1 b0 b1 c; let t8 := ref_Add a0 a1 b0 b1 c; let t9 := cong_Sub.ok a0 a1 b0 b1 c; let t10 := ref_Sub.ok a0 a1 b0 b1 c; let t11 := cong_Sub a0 a1 b0 b1 c; let t12 := ref_Sub a0 a1 b0 b1 c; let t13 := cong_Mul.ok a0 a1 b0 b1 c; let t14 := ref_Mul.ok a0 a1 b0 b1 c; let t15 := cong_Mul a0 a1 b0 b1 c; let t16 := ref_Mul a0 a1 b0 b1 c; let t17 := cong_Div.ok a0 a1 b0 b1; let t18 := ref_Div.ok a0 a1 b0 b1; let t19 := cong_Div a0 a1 b0 b1; let t20 := ref_Div a0 a1 b0 b1; let t21 := cong_Rem.ok a0 a1 b0 b1; let t22 := ref_Rem.ok a0 a1 b0 b1; let t23 := cong_Rem a0 a1 b0 b1; let t24 := ref_Rem a0 a1 b0 b1; law_CongOps.c0 n k a0 a1 b0 b1 c t1 t2 t3 t4 t5 t6 t7 t8 t9 t10 t11 t12 t13 t14 t15 t16 t17 t18 t19 t20 t21 t22 t23 t24
def law_CongOps.ok (a0 : Int) (a1 : Int) (b0 : Int) (b1 : Int) (c : Bool) : Bool := law_CongOps.c false (fun _ => true) a0 a1 b0 b1 c
def law_CongOps (a0 : Int) (a1 : Int) (b0 : Int) (b1 : Int) (c : Bool) : Bool := law_CongOps.c (false) id a0 a1 b0 b1 c
def law_CongOps.F : FV := mkF (cP (cA (cP (cI .u64) (cP (cI .u64) cU))) (cP (cA (cP (cI .u64) (cP (cI .u64) cU))) (cP cB cU))) (fun | ((a0, (a1, ())), ((b0, (b1, ())), (c, ()))) => law_CongOps.ok a0 a1 b0 b1 c) (fun | ((a0, (a1, ())), ((b0, (b1, ())), (c, ()))) => .bool (law_CongOps a0 a1 b0 b1 c))
def L_law_CongOps : TL := (6, law_CongOps.F) :: L_law_wraps
theorem law_CongOps.p0 {γ : Type} (k : Bool → γ) (a0 : Int) (a1 : Int) (b0 : Int) (b1 : Int) (c : Bool) (t1 : Bool) (t2 : Bool) (t3 : Int × Int) (t4 : Int × Int) (t5 : Bool) (t6 : Bool) (t7 : Int × Int) (t8 : Int × Int) (t9 : Bool) (t10 : Bool) (t11 : Int × Int) (t12 : Int × Int) (t13 : Bool) (t14 : Bool) (t15 : Int × Int) (t16 : Int × Int) (t17 : Bool) (t18 : Bool) (t19 : Int × Int) (t20 : Int × Int) (t21 : Bool) (t22 : Bool) (t23 : Int × Int) (t24 : Int × Int) : law_CongOps.c0 false (fun _ => true) a0 a1 b0 b1 c t1 t2 t3 t4 t5 t6 t7 t8 t9 t10 t11 t12 t13 t14 t15 t16 t17 t18 t19 t20 t21 t22 t23 t24 = true → law_CongOps.c0 none (fun q => some (k q)) a0 a1 b0 b1 c t1 t2 t3 t4 t5 t6 t7 t8 t9 t10 t11 t12 t13 t14 t15 t16 t17 t18 t19 t20 t21 t22 t23 t24 = some (k (law_CongOps.c0 (false) id a0 a1 b0 b1 c t1 t2 t3 t4 t5 t6 t7 t8 t9 t10 t11 t12 t13 t14 t15 t16 t17 t18 t19 t20 t21 t22 t23 t24)) := by
  unfold law_CongOps.c0; (repeat' (first | (apply pn k) | (exact pn_none _ _) | (exact pn_leaf k _)))
theorem law_CongOps.p {γ : Type} (k : Bool → γ) (a0 : Int) (a1 : Int) (b0 : Int) (b1 : Int) (c : Bool) (h : law_CongOps.ok a0 a1 b0 b1 c = true) : law_CongOps.c none (fun q => some (k q)) a0 a1 b0 b1 c = some (k (law_CongOps a0 a1 b0 b1 c)) :=
  let t1 := cong_Neg.ok a0 a1 c; let t2 := ref_Neg.ok a0 a1 c; let t3 := cong_Neg a0 a1 c; let t4 := ref_Neg a0 a1 c; let t5 := cong_Add.ok a0 a1 b0 b1 c; let t6 := ref_Add.ok a0 a1 b0 b1 c; let t7 := cong_Add a0 a1 b0 b1 c; let t8 := ref_Add a0 a1 b0 b1 c; let t9 := cong_Sub.ok a0 a1 b0 b1 c; let t10 := ref_Sub.ok a0 a1 b0 b1 c; let t11 := cong_Sub a0 a1 b0 b1 c; let t12 := ref_Sub a0 a1 b0 b1 c; let t13 := cong_Mul.ok a0 a1 b0 b1 c; let t14 := ref_Mul.ok a0 a1 b0 b1 c; let t15 := cong_Mul a0 a1 b0 b1 c; let t16 := ref_Mul a0 a1 b0 b1 c; let t17 := cong_Div.ok a0 a1 b0 b1; let t18 := ref_Div.ok a0 a1 b0 b1; let t19 := cong_Div a0 a1 b0 b1; let t20 := ref_Div a0 a1 b0 b1; let t21 := cong_Rem.ok a0 a1 b0 b1; let t22 := ref_Rem.ok a0 a1 b0 b1; let t23 := cong_Rem a0 a1 b0 b1; let t24 := ref_Rem a0 a1 b0 b1; law_CongOps.p0 k a0 a1 b0 b1 c t1 t2 t3 t4 t5 t6 t7 t8 t9 t10 t11 t12 t13 t14 t15 t16 t17 t18 t19 t20 t21 t22 t23 t24 h
theorem law_CongOps.r (a0 : Int) (a1 : Int) (b0 : Int) (b1 : Int) (c : Bool) : runF P G (tab L_law_wraps) { merge := true } 60 Tryd.f6 [.agg #[.int .u64 a0, .int .u64 a1], .agg #[.int .u64 b0, .int .u64 b1], .bool c] = law_CongOps.c none (fun q => some (.bool (q) : Value)) a0 a1 b0 b1 c := by kernel_rfl
theorem law_CongOps.t : TabOK P G (tab L_law_CongOps) :=
  TabOK_mk C law_wraps.t Tryd.func6 (by kernel_rfl) true 60 (by
    rintro ⟨⟨a0, ⟨a1, ⟨⟩⟩⟩, ⟨⟨b0, ⟨b1, ⟨⟩⟩⟩, ⟨c, ⟨⟩⟩⟩⟩ h
    exact (law_CongOps.r a0 a1 b0 b1 c).trans (law_CongOps.p (fun q => (.bool (q) : Value)) a0 a1 b0 b1 c h))

end
end Go.Proofs.YtoggbmfjkcbilaaDoor.V
