/- What the functions of this seat compute, told by evaluation of their code. Conditions: none. -/
import Derived.Test.YtonpbbhlmapbdaaGreatDoorF2
set_option linter.unusedVariables false
set_option linter.unusedSimpArgs false
namespace Go.Proofs.YtonpbbhlmapbdaaGreatDoor.V
open Go Go.Wk
noncomputable section
def inv_told.c0 {γ : Type} (k : N10 → γ) (a00 : Bool) (a01 a02 a03 a04 : Int) (a10 : Bool) (a11 a12 a13 a14 : Int) (t1 : Bool) : γ := bif t1
then k (num_Bot.1, num_Bot.2.1, num_Bot.2.2.1, num_Bot.2.2.2.1, num_Bot.2.2.2.2, num_Bot.1, num_Bot.2.1, num_Bot.2.2.1, num_Bot.2.2.2.1, num_Bot.2.2.2.2)
else k (a00, a01, a02, a03, a04, a10, a11, a12, a13, a14)
def inv_told.c {γ : Type} (k : N10 → γ) (a00 : Bool) (a01 a02 a03 a04 : Int) (a10 : Bool) (a11 a12 a13 a14 : Int) : γ := let t1 := bif a00 then true else a10; inv_told.c0 k a00 a01 a02 a03 a04 a10 a11 a12 a13 a14 t1
def inv_told (a00 : Bool) (a01 a02 a03 a04 : Int) (a10 : Bool) (a11 a12 a13 a14 : Int) : N10 := inv_told.c id a00 a01 a02 a03 a04 a10 a11 a12 a13 a14
def v11 (q : N10) : Value := .tuple #[.agg #[.bool q.1, .int .i64 q.2.1, .int .i64 q.2.2.1, .int .u64 q.2.2.2.1, .int .u64 q.2.2.2.2.1], .agg #[.bool q.2.2.2.2.2.1, .int .i64 q.2.2.2.2.2.2.1, .int .i64 q.2.2.2.2.2.2.2.1, .int .u64 q.2.2.2.2.2.2.2.2.1, .int .u64 q.2.2.2.2.2.2.2.2.2]]
def inv_told.F : FV := mkF (cP (cA (cP cB (cP (cI .i64) (cP (cI .i64) (cP (cI .u64) (cP (cI .u64) (cP cB (cP (cI .i64) (cP (cI .i64) (cP (cI .u64) (cP (cI .u64) cU))))))))))) cU) (fun _ => true) (fun | ((a00, a01, a02, a03, a04, a10, a11, a12, a13, a14, ()), ()) => v11 (inv_told a00 a01 a02 a03 a04 a10 a11 a12 a13 a14))
def L_inv_told : TL := (96, inv_told.F) :: L_w1_Rem
theorem inv_told.p0 {γ : Type} (k : N10 → γ) (a00 a01 a02 a03 a04 a10 a11 a12 a13 a14 t1) : inv_told.c0 k a00 a01 a02 a03 a04 a10 a11 a12 a13 a14 t1 = k (inv_told.c0 id a00 a01 a02 a03 a04 a10 a11 a12 a13 a14 t1) := by
  unfold inv_told.c0; (repeat' (first | (apply pc k) | (exact rfl)))
theorem inv_told.p {γ : Type} (k : N10 → γ) (a00 : Bool) (a01 a02 a03 a04 : Int) (a10 : Bool) (a11 a12 a13 a14 : Int) : inv_told.c k a00 a01 a02 a03 a04 a10 a11 a12 a13 a14 = k (inv_told a00 a01 a02 a03 a04 a10 a11 a12 a13 a14) := by
  unfold inv_told inv_told.c; apply inv_told.p0
theorem inv_told.r (a00 : Bool) (a01 a02 a03 a04 : Int) (a10 : Bool) (a11 a12 a13 a14 : Int) : runF P G (tab L_w1_Rem) { merge := true, glue := true } 60 Tryz.f96 [.agg #[.bool a00, .int .i64 a01, .int .i64 a02, .int .u64 a03, .int .u64 a04, .bool a10, .int .i64 a11, .int .i64 a12, .int .u64 a13, .int .u64 a14]] = inv_told.c (fun q => some (v11 q)) a00 a01 a02 a03 a04 a10 a11 a12 a13 a14 := by kernel_rfl
theorem inv_told.t : TabOK P G (tab L_inv_told) :=
  TabOK_mkL C w1_Rem.t Tryz.func96 (by kernel_rfl) { merge := true, glue := true } (fun c _ => LoopsOK_nil c) 60 (by
    rintro ⟨⟨a00, a01, a02, a03, a04, a10, a11, a12, a13, a14, ⟨⟩⟩, ⟨⟩⟩ h
    exact (inv_told.r a00 a01 a02 a03 a04 a10 a11 a12 a13 a14).trans (inv_told.p (fun q => some (.tuple #[.agg #[.bool (q).1, .int .i64 (q).2.1, .int .i64 (q).2.2.1, .int .u64 (q).2.2.2.1, .int .u64 (q).2.2.2.2.1], .agg #[.bool (q).2.2.2.2.2.1, .int .i64 (q).2.2.2.2.2.2.1, .int .i64 (q).2.2.2.2.2.2.2.1, .int .u64 (q).2.2.2.2.2.2.2.2.1, .int .u64 (q).2.2.2.2.2.2.2.2.2]] : Value)) a00 a01 a02 a03 a04 a10 a11 a12 a13 a14))
def inv_turned.c {γ : Type} (k : N10 → γ) (a00 : Bool) (a01 a02 a03 a04 : Int) (a10 : Bool) (a11 a12 a13 a14 : Int) : γ := k (a10, a11, a12, a13, a14, a00, a01, a02, a03, a04)
def inv_turned (a00 : Bool) (a01 a02 a03 a04 : Int) (a10 : Bool) (a11 a12 a13 a14 : Int) : N10 := inv_turned.c id a00 a01 a02 a03 a04 a10 a11 a12 a13 a14
def v12 (q : N10) : Value := .agg #[.bool q.1, .int .i64 q.2.1, .int .i64 q.2.2.1, .int .u64 q.2.2.2.1, .int .u64 q.2.2.2.2.1, .bool q.2.2.2.2.2.1, .int .i64 q.2.2.2.2.2.2.1, .int .i64 q.2.2.2.2.2.2.2.1, .int .u64 q.2.2.2.2.2.2.2.2.1, .int .u64 q.2.2.2.2.2.2.2.2.2]
def inv_turned.F : FV := mkF (cP (cA (cP cB (cP (cI .i64) (cP (cI .i64) (cP (cI .u64) (cP (cI .u64) (cP cB (cP (cI .i64) (cP (cI .i64) (cP (cI .u64) (cP (cI .u64) cU))))))))))) cU) (fun _ => true) (fun | ((a00, a01, a02, a03, a04, a10, a11, a12, a13, a14, ()), ()) => v12 (inv_turned a00 a01 a02 a03 a04 a10 a11 a12 a13 a14))
def L_inv_turned : TL := (245, inv_turned.F) :: L_inv_told
theorem inv_turned.p {γ : Type} (k : N10 → γ) (a00 : Bool) (a01 a02 a03 a04 : Int) (a10 : Bool) (a11 a12 a13 a14 : Int) : inv_turned.c k a00 a01 a02 a03 a04 a10 a11 a12 a13 a14 = k (inv_turned a00 a01 a02 a03 a04 a10 a11 a12 a13 a14) := by
  unfold inv_turned inv_turned.c; (repeat' (first | (apply pc k) | (exact rfl)))
theorem inv_turned.r (a00 : Bool) (a01 a02 a03 a04 : Int) (a10 : Bool) (a11 a12 a13 a14 : Int) : runF P G (tab L_inv_told) { merge := true, glue := true } 60 Tryz.f245 [.agg #[.bool a00, .int .i64 a01, .int .i64 a02, .int .u64 a03, .int .u64 a04, .bool a10, .int .i64 a11, .int .i64 a12, .int .u64 a13, .int .u64 a14]] = inv_turned.c (fun q => some (v12 q)) a00 a01 a02 a03 a04 a10 a11 a12 a13 a14 := by kernel_rfl
theorem inv_turned.t : TabOK P G (tab L_inv_turned) :=
  TabOK_mkL C inv_told.t Tryz.func245 (by kernel_rfl) { merge := true, glue := true } (fun c _ => LoopsOK_nil c) 60 (by
    rintro ⟨⟨a00, a01, a02, a03, a04, a10, a11, a12, a13, a14, ⟨⟩⟩, ⟨⟩⟩ h
    exact (inv_turned.r a00 a01 a02 a03 a04 a10 a11 a12 a13 a14).trans (inv_turned.p (fun q => some (.agg #[.bool (q).1, .int .i64 (q).2.1, .int .i64 (q).2.2.1, .int .u64 (q).2.2.2.1, .int .u64 (q).2.2.2.2.1, .bool (q).2.2.2.2.2.1, .int .i64 (q).2.2.2.2.2.2.1, .int .i64 (q).2.2.2.2.2.2.2.1, .int .u64 (q).2.2.2.2.2.2.2.2.1, .int .u64 (q).2.2.2.2.2.2.2.2.2] : Value)) a00 a01 a02 a03 a04 a10 a11 a12 a13 a14))
def inv_from.c0 {γ : Type} (k : N5 → γ) (a : Int) (t1 : N5) : γ := k (t1.1, t1.2.1, t1.2.2.1, t1.2.2.2.1, t1.2.2.2.2)
def inv_from.c {γ : Type} (k : N5 → γ) (a : Int) : γ := let t1 := num_Range a 9223372036854775807; inv_from.c0 k a t1
def inv_from (a : Int) : N5 := inv_from.c id a
def inv_from.F : FV := mkF (cP (cI .i64) cU) (fun _ => true) (fun | (a, ()) => v9 (inv_from a))
def L_inv_from : TL := (238, inv_from.F) :: L_inv_turned
theorem inv_from.p0 {γ : Type} (k : N5 → γ) (a t1) : inv_from.c0 k a t1 = k (inv_from.c0 id a t1) := by
  unfold inv_from.c0; (repeat' (first | (apply pc k) | (exact rfl)))
theorem inv_from.p {γ : Type} (k : N5 → γ) (a : Int) : inv_from.c k a = k (inv_from a) := by
  unfold inv_from inv_from.c; apply inv_from.p0
theorem inv_from.r (a : Int) : runF P G (tab L_inv_turned) { merge := true, glue := true } 60 Tryz.f238 [.int .i64 a] = inv_from.c (fun q => some (v9 q)) a := by kernel_rfl
theorem inv_from.t : TabOK P G (tab L_inv_from) :=
  TabOK_mkL C inv_turned.t Tryz.func238 (by kernel_rfl) { merge := true, glue := true } (fun c _ => LoopsOK_nil c) 60 (by
    rintro ⟨a, ⟨⟩⟩ h
    exact (inv_from.r a).trans (inv_from.p (fun q => some (.agg #[.bool (q).1, .int .i64 (q).2.1, .int .i64 (q).2.2.1, .int .u64 (q).2.2.2.1, .int .u64 (q).2.2.2.2] : Value)) a))
def inv_to.c0 {γ : Type} (k : N5 → γ) (a : Int) (t1 : N5) : γ := k (t1.1, t1.2.1, t1.2.2.1, t1.2.2.2.1, t1.2.2.2.2)
def inv_to.c {γ : Type} (k : N5 → γ) (a : Int) : γ := let t1 := num_Range (-9223372036854775808) a; inv_to.c0 k a t1
def inv_to (a : Int) : N5 := inv_to.c id a
def inv_to.F : FV := mkF (cP (cI .i64) cU) (fun _ => true) (fun | (a, ()) => v9 (inv_to a))
def L_inv_to : TL := (239, inv_to.F) :: L_inv_from
theorem inv_to.p0 {γ : Type} (k : N5 → γ) (a t1) : inv_to.c0 k a t1 = k (inv_to.c0 id a t1) := by
  unfold inv_to.c0; (repeat' (first | (apply pc k) | (exact rfl)))
theorem inv_to.p {γ : Type} (k : N5 → γ) (a : Int) : inv_to.c k a = k (inv_to a) := by
  unfold inv_to inv_to.c; apply inv_to.p0
theorem inv_to.r (a : Int) : runF P G (tab L_inv_from) { merge := true, glue := true } 60 Tryz.f239 [.int .i64 a] = inv_to.c (fun q => some (v9 q)) a := by kernel_rfl
theorem inv_to.t : TabOK P G (tab L_inv_to) :=
  TabOK_mkL C inv_from.t Tryz.func239 (by kernel_rfl) { merge := true, glue := true } (fun c _ => LoopsOK_nil c) 60 (by
    rintro ⟨a, ⟨⟩⟩ h
    exact (inv_to.r a).trans (inv_to.p (fun q => some (.agg #[.bool (q).1, .int .i64 (q).2.1, .int .i64 (q).2.2.1, .int .u64 (q).2.2.2.1, .int .u64 (q).2.2.2.2] : Value)) a))
def inv_one.c0 {γ : Type} (k : Int × Bool → γ) (a0 : Bool) (a1 a2 a3 a4 : Int) (t1 : Bool) : γ := k (a1, t1)
def inv_one.c {γ : Type} (k : Int × Bool → γ) (a0 : Bool) (a1 a2 a3 a4 : Int) : γ := let t1 := bif !a0 then a1 == a2 else false; inv_one.c0 k a0 a1 a2 a3 a4 t1
def inv_one (a0 : Bool) (a1 a2 a3 a4 : Int) : Int × Bool := inv_one.c id a0 a1 a2 a3 a4
def inv_one.F : FV := mkF (cP cN cU) (fun _ => true) (fun | ((a0, a1, a2, a3, a4, ()), ()) => v0 (inv_one a0 a1 a2 a3 a4))
def L_inv_one : TL := (241, inv_one.F) :: L_inv_to
theorem inv_one.p0 {γ : Type} (k : Int × Bool → γ) (a0 a1 a2 a3 a4 t1) : inv_one.c0 k a0 a1 a2 a3 a4 t1 = k (inv_one.c0 id a0 a1 a2 a3 a4 t1) := by
  unfold inv_one.c0; (repeat' (first | (apply pc k) | (exact rfl)))
theorem inv_one.p {γ : Type} (k : Int × Bool → γ) (a0 : Bool) (a1 a2 a3 a4 : Int) : inv_one.c k a0 a1 a2 a3 a4 = k (inv_one a0 a1 a2 a3 a4) := by
  unfold inv_one inv_one.c; apply inv_one.p0
theorem inv_one.r (a0 : Bool) (a1 a2 a3 a4 : Int) : runF P G (tab L_inv_to) { merge := true, glue := true } 60 Tryz.f241 [wN a0 a1 a2 a3 a4] = inv_one.c (fun q => some (v0 q)) a0 a1 a2 a3 a4 := by kernel_rfl
theorem inv_one.t : TabOK P G (tab L_inv_one) :=
  TabOK_mkL C inv_to.t Tryz.func241 (by kernel_rfl) { merge := true, glue := true } (fun c _ => LoopsOK_nil c) 60 (by
    rintro ⟨⟨a0, a1, a2, a3, a4, ⟨⟩⟩, ⟨⟩⟩ h
    exact (inv_one.r a0 a1 a2 a3 a4).trans (inv_one.p (fun q => some (.tuple #[.int .i64 (q).1, .bool (q).2] : Value)) a0 a1 a2 a3 a4))
def inv_of.c0 {γ : Type} (k : Int × Int → γ) (a t1 : Int) : γ := k (a.fdiv (2 ^ min (Int.toNat 63) IntKind.i64.bits), t1)
def inv_of.c {γ : Type} (k : Int × Int → γ) (a : Int) : γ := let t1 := IntKind.u64.wrap a; inv_of.c0 k a t1
def inv_of (a : Int) : Int × Int := inv_of.c id a
def inv_of.F : FV := mkF (cP (cI .i64) cU) (fun _ => true) (fun | (a, ()) => v5 (inv_of a))
def L_inv_of : TL := (240, inv_of.F) :: L_inv_one
theorem inv_of.p0 {γ : Type} (k : Int × Int → γ) (a t1) : inv_of.c0 k a t1 = k (inv_of.c0 id a t1) := by
  unfold inv_of.c0; (repeat' (first | (apply pc k) | (exact rfl)))
theorem inv_of.p {γ : Type} (k : Int × Int → γ) (a : Int) : inv_of.c k a = k (inv_of a) := by
  unfold inv_of inv_of.c; apply inv_of.p0
theorem inv_of.r (a : Int) : runF P G (tab L_inv_one) { merge := true, glue := true } 60 Tryz.f240 [.int .i64 a] = inv_of.c (fun q => some (v5 q)) a := by kernel_rfl
theorem inv_of.t : TabOK P G (tab L_inv_of) :=
  TabOK_mkL C inv_one.t Tryz.func240 (by kernel_rfl) { merge := true, glue := true } (fun c _ => LoopsOK_nil c) 60 (by
    rintro ⟨a, ⟨⟩⟩ h
    exact (inv_of.r a).trans (inv_of.p (fun q => some (.agg #[.int .i64 (q).1, .int .u64 (q).2] : Value)) a))
def inv_product.c0 {γ : Type} (k : Int × Int → γ) (a b : Int) (t1 : Int × Int) : γ := k (t1.1, t1.2)
def inv_product.c {γ : Type} (k : Int × Int → γ) (a b : Int) : γ := let t1 := word_Wide a b; inv_product.c0 k a b t1
def inv_product (a b : Int) : Int × Int := inv_product.c id a b
def inv_product.F : FV := mkF (cP (cI .i64) (cP (cI .i64) cU)) (fun _ => true) (fun | (a, b, ()) => v5 (inv_product a b))
def L_inv_product : TL := (260, inv_product.F) :: L_inv_of
theorem inv_product.p0 {γ : Type} (k : Int × Int → γ) (a b t1) : inv_product.c0 k a b t1 = k (inv_product.c0 id a b t1) := by
  unfold inv_product.c0; (repeat' (first | (apply pc k) | (exact rfl)))
theorem inv_product.p {γ : Type} (k : Int × Int → γ) (a b : Int) : inv_product.c k a b = k (inv_product a b) := by
  unfold inv_product inv_product.c; apply inv_product.p0
theorem inv_product.r (a b : Int) : runF P G (tab L_inv_of) { merge := true, glue := true } 60 Tryz.f260 [.int .i64 a, .int .i64 b] = inv_product.c (fun q => some (v5 q)) a b := by kernel_rfl
theorem inv_product.t : TabOK P G (tab L_inv_product) :=
  TabOK_mkL C inv_of.t Tryz.func260 (by kernel_rfl) { merge := true, glue := true } (fun c _ => LoopsOK_nil c) 60 (by
    rintro ⟨a, b, ⟨⟩⟩ h
    exact (inv_product.r a b).trans (inv_product.p (fun q => some (.agg #[.int .i64 (q).1, .int .u64 (q).2] : Value)) a b))
def inv_wless.c0 {γ : Type} (k : Bool → γ) (a0 a1 b0 b1 : Int) (t1 t2 : Bool) : γ := k (t2)
def inv_wless.c {γ : Type} (k : Bool → γ) (a0 a1 b0 b1 : Int) : γ := let t1 := bif a0 == b0 then decide (a1 < b1) else false; let t2 := bif decide (a0 < b0) then true else t1; inv_wless.c0 k a0 a1 b0 b1 t1 t2
def inv_wless (a0 a1 b0 b1 : Int) : Bool := inv_wless.c id a0 a1 b0 b1
def inv_wless.F : FV := mkF (cP (cA (cP (cI .i64) (cP (cI .u64) cU))) (cP (cA (cP (cI .i64) (cP (cI .u64) cU))) cU)) (fun _ => true) (fun | ((a0, a1, ()), (b0, b1, ()), ()) => .bool (inv_wless a0 a1 b0 b1))
def L_inv_wless : TL := (261, inv_wless.F) :: L_inv_product
theorem inv_wless.p0 {γ : Type} (k : Bool → γ) (a0 a1 b0 b1 t1 t2) : inv_wless.c0 k a0 a1 b0 b1 t1 t2 = k (inv_wless.c0 id a0 a1 b0 b1 t1 t2) := by
  unfold inv_wless.c0; (repeat' (first | (apply pc k) | (exact rfl)))
theorem inv_wless.p {γ : Type} (k : Bool → γ) (a0 a1 b0 b1 : Int) : inv_wless.c k a0 a1 b0 b1 = k (inv_wless a0 a1 b0 b1) := by
  unfold inv_wless inv_wless.c; apply inv_wless.p0
theorem inv_wless.r (a0 a1 b0 b1 : Int) : runF P G (tab L_inv_product) { merge := true, glue := true } 60 Tryz.f261 [.agg #[.int .i64 a0, .int .u64 a1], .agg #[.int .i64 b0, .int .u64 b1]] = inv_wless.c (fun q => some (.bool (q) : Value)) a0 a1 b0 b1 := by kernel_rfl
theorem inv_wless.t : TabOK P G (tab L_inv_wless) :=
  TabOK_mkL C inv_product.t Tryz.func261 (by kernel_rfl) { merge := true, glue := true } (fun c _ => LoopsOK_nil c) 60 (by
    rintro ⟨⟨a0, a1, ⟨⟩⟩, ⟨b0, b1, ⟨⟩⟩, ⟨⟩⟩ h
    exact (inv_wless.r a0 a1 b0 b1).trans (inv_wless.p (fun q => some (.bool (q) : Value)) a0 a1 b0 b1))
def inv_fits.c0 {γ : Type} (k : Bool → γ) (a0 a1 t1 : Int) : γ := k (a0 == t1.fdiv (2 ^ min (Int.toNat 63) IntKind.i64.bits))
def inv_fits.c {γ : Type} (k : Bool → γ) (a0 a1 : Int) : γ := let t1 := IntKind.i64.wrap a1; inv_fits.c0 k a0 a1 t1
def inv_fits (a0 a1 : Int) : Bool := inv_fits.c id a0 a1
def inv_fits.F : FV := mkF (cP (cA (cP (cI .i64) (cP (cI .u64) cU))) cU) (fun _ => true) (fun | ((a0, a1, ()), ()) => .bool (inv_fits a0 a1))
def L_inv_fits : TL := (259, inv_fits.F) :: L_inv_wless
theorem inv_fits.p0 {γ : Type} (k : Bool → γ) (a0 a1 t1) : inv_fits.c0 k a0 a1 t1 = k (inv_fits.c0 id a0 a1 t1) := by
  unfold inv_fits.c0; (repeat' (first | (apply pc k) | (exact rfl)))
theorem inv_fits.p {γ : Type} (k : Bool → γ) (a0 a1 : Int) : inv_fits.c k a0 a1 = k (inv_fits a0 a1) := by
  unfold inv_fits inv_fits.c; apply inv_fits.p0
theorem inv_fits.r (a0 a1 : Int) : runF P G (tab L_inv_wless) { merge := true, glue := true } 60 Tryz.f259 [.agg #[.int .i64 a0, .int .u64 a1]] = inv_fits.c (fun q => some (.bool (q) : Value)) a0 a1 := by kernel_rfl
theorem inv_fits.t : TabOK P G (tab L_inv_fits) :=
  TabOK_mkL C inv_wless.t Tryz.func259 (by kernel_rfl) { merge := true, glue := true } (fun c _ => LoopsOK_nil c) 60 (by
    rintro ⟨⟨a0, a1, ⟨⟩⟩, ⟨⟩⟩ h
    exact (inv_fits.r a0 a1).trans (inv_fits.p (fun q => some (.bool (q) : Value)) a0 a1))
def inv_plus.c0 {γ : Type} (k : Int × Int → γ) (a0 a1 b0 b1 t1 : Int) (t2 : Int × Int) (t3 t4 : Int) : γ := k (t4, t2.1)
def inv_plus.c {γ : Type} (k : Int × Int → γ) (a0 a1 b0 b1 : Int) : γ := let t1 := IntKind.i64.wrap (a0 + b0); let t2 := bits_Add64 a1 b1 0; let t3 := IntKind.i64.wrap t2.2; let t4 := IntKind.i64.wrap (t1 + t3); inv_plus.c0 k a0 a1 b0 b1 t1 t2 t3 t4
def inv_plus (a0 a1 b0 b1 : Int) : Int × Int := inv_plus.c id a0 a1 b0 b1
def inv_plus.F : FV := mkF (cP (cA (cP (cI .i64) (cP (cI .u64) cU))) (cP (cA (cP (cI .i64) (cP (cI .u64) cU))) cU)) (fun _ => true) (fun | ((a0, a1, ()), (b0, b1, ()), ()) => v5 (inv_plus a0 a1 b0 b1))
def L_inv_plus : TL := (237, inv_plus.F) :: L_inv_fits
theorem inv_plus.p0 {γ : Type} (k : Int × Int → γ) (a0 a1 b0 b1 t1 t2 t3 t4) : inv_plus.c0 k a0 a1 b0 b1 t1 t2 t3 t4 = k (inv_plus.c0 id a0 a1 b0 b1 t1 t2 t3 t4) := by
  unfold inv_plus.c0; (repeat' (first | (apply pc k) | (exact rfl)))
theorem inv_plus.p {γ : Type} (k : Int × Int → γ) (a0 a1 b0 b1 : Int) : inv_plus.c k a0 a1 b0 b1 = k (inv_plus a0 a1 b0 b1) := by
  unfold inv_plus inv_plus.c; apply inv_plus.p0
theorem inv_plus.r (a0 a1 b0 b1 : Int) : runF P G (tab L_inv_fits) { merge := true, glue := true } 60 Tryz.f237 [.agg #[.int .i64 a0, .int .u64 a1], .agg #[.int .i64 b0, .int .u64 b1]] = inv_plus.c (fun q => some (v5 q)) a0 a1 b0 b1 := by kernel_rfl
theorem inv_plus.t : TabOK P G (tab L_inv_plus) :=
  TabOK_mkL C inv_fits.t Tryz.func237 (by kernel_rfl) { merge := true, glue := true } (fun c _ => LoopsOK_nil c) 60 (by
    rintro ⟨⟨a0, a1, ⟨⟩⟩, ⟨b0, b1, ⟨⟩⟩, ⟨⟩⟩ h
    exact (inv_plus.r a0 a1 b0 b1).trans (inv_plus.p (fun q => some (.agg #[.int .i64 (q).1, .int .u64 (q).2] : Value)) a0 a1 b0 b1))
def inv_minus.c0 {γ : Type} (k : Int × Int → γ) (a0 a1 b0 b1 t1 : Int) (t2 : Int × Int) (t3 t4 : Int) : γ := k (t4, t2.1)
def inv_minus.c {γ : Type} (k : Int × Int → γ) (a0 a1 b0 b1 : Int) : γ := let t1 := IntKind.i64.wrap (a0 - b0); let t2 := bits_Sub64 a1 b1 0; let t3 := IntKind.i64.wrap t2.2; let t4 := IntKind.i64.wrap (t1 - t3); inv_minus.c0 k a0 a1 b0 b1 t1 t2 t3 t4
def inv_minus (a0 a1 b0 b1 : Int) : Int × Int := inv_minus.c id a0 a1 b0 b1
def inv_minus.F : FV := mkF (cP (cA (cP (cI .i64) (cP (cI .u64) cU))) (cP (cA (cP (cI .i64) (cP (cI .u64) cU))) cU)) (fun _ => true) (fun | ((a0, a1, ()), (b0, b1, ()), ()) => v5 (inv_minus a0 a1 b0 b1))
def L_inv_minus : TL := (236, inv_minus.F) :: L_inv_plus
theorem inv_minus.p0 {γ : Type} (k : Int × Int → γ) (a0 a1 b0 b1 t1 t2 t3 t4) : inv_minus.c0 k a0 a1 b0 b1 t1 t2 t3 t4 = k (inv_minus.c0 id a0 a1 b0 b1 t1 t2 t3 t4) := by
  unfold inv_minus.c0; (repeat' (first | (apply pc k) | (exact rfl)))
theorem inv_minus.p {γ : Type} (k : Int × Int → γ) (a0 a1 b0 b1 : Int) : inv_minus.c k a0 a1 b0 b1 = k (inv_minus a0 a1 b0 b1) := by
  unfold inv_minus inv_minus.c; apply inv_minus.p0
theorem inv_minus.r (a0 a1 b0 b1 : Int) : runF P G (tab L_inv_plus) { merge := true, glue := true } 60 Tryz.f236 [.agg #[.int .i64 a0, .int .u64 a1], .agg #[.int .i64 b0, .int .u64 b1]] = inv_minus.c (fun q => some (v5 q)) a0 a1 b0 b1 := by kernel_rfl
theorem inv_minus.t : TabOK P G (tab L_inv_minus) :=
  TabOK_mkL C inv_plus.t Tryz.func236 (by kernel_rfl) { merge := true, glue := true } (fun c _ => LoopsOK_nil c) 60 (by
    rintro ⟨⟨a0, a1, ⟨⟩⟩, ⟨b0, b1, ⟨⟩⟩, ⟨⟩⟩ h
    exact (inv_minus.r a0 a1 b0 b1).trans (inv_minus.p (fun q => some (.agg #[.int .i64 (q).1, .int .u64 (q).2] : Value)) a0 a1 b0 b1))
def inv_clipped.c0 {γ : Type} (k : N5 → γ) (a0 a1 b0 b1 : Int) (t1 t2 : Bool) (t3 t4 : Int) (t5 t6 t7 t8 : N5) : γ := bif t1
then bif t2
then k (t5.1, t5.2.1, t5.2.2.1, t5.2.2.2.1, t5.2.2.2.2)
else bif decide (b0 < 0)
then k (num_Bot.1, num_Bot.2.1, num_Bot.2.2.1, num_Bot.2.2.2.1, num_Bot.2.2.2.2)
else k (t6.1, t6.2.1, t6.2.2.1, t6.2.2.2.1, t6.2.2.2.2)
else bif decide (a0 ≥ 0)
then k (num_Bot.1, num_Bot.2.1, num_Bot.2.2.1, num_Bot.2.2.2.1, num_Bot.2.2.2.2)
else bif t2
then k (t7.1, t7.2.1, t7.2.2.1, t7.2.2.2.1, t7.2.2.2.2)
else bif decide (b0 < 0)
then k (num_Bot.1, num_Bot.2.1, num_Bot.2.2.1, num_Bot.2.2.2.1, num_Bot.2.2.2.2)
else k (t8.1, t8.2.1, t8.2.2.1, t8.2.2.2.1, t8.2.2.2.2)
def inv_clipped.c {γ : Type} (k : N5 → γ) (a0 a1 b0 b1 : Int) : γ := let t1 := inv_fits a0 a1; let t2 := inv_fits b0 b1; let t3 := IntKind.i64.wrap a1; let t4 := IntKind.i64.wrap b1; let t5 := num_Range t3 t4; let t6 := num_Range t3 9223372036854775807; let t7 := num_Range (-9223372036854775808) t4; let t8 := num_Range (-9223372036854775808) 9223372036854775807; inv_clipped.c0 k a0 a1 b0 b1 t1 t2 t3 t4 t5 t6 t7 t8
def inv_clipped (a0 a1 b0 b1 : Int) : N5 := inv_clipped.c id a0 a1 b0 b1
def inv_clipped.F : FV := mkF (cP (cA (cP (cI .i64) (cP (cI .u64) cU))) (cP (cA (cP (cI .i64) (cP (cI .u64) cU))) cU)) (fun _ => true) (fun | ((a0, a1, ()), (b0, b1, ()), ()) => v9 (inv_clipped a0 a1 b0 b1))
def L_inv_clipped : TL := (235, inv_clipped.F) :: L_inv_minus
theorem inv_clipped.p0 {γ : Type} (k : N5 → γ) (a0 a1 b0 b1 t1 t2 t3 t4 t5 t6 t7 t8) : inv_clipped.c0 k a0 a1 b0 b1 t1 t2 t3 t4 t5 t6 t7 t8 = k (inv_clipped.c0 id a0 a1 b0 b1 t1 t2 t3 t4 t5 t6 t7 t8) := by
  unfold inv_clipped.c0; (repeat' (first | (apply pc k) | (exact rfl)))
theorem inv_clipped.p {γ : Type} (k : N5 → γ) (a0 a1 b0 b1 : Int) : inv_clipped.c k a0 a1 b0 b1 = k (inv_clipped a0 a1 b0 b1) := by
  unfold inv_clipped inv_clipped.c; apply inv_clipped.p0
theorem inv_clipped.r (a0 a1 b0 b1 : Int) : runF P G (tab L_inv_minus) { merge := true, glue := true } 60 Tryz.f235 [.agg #[.int .i64 a0, .int .u64 a1], .agg #[.int .i64 b0, .int .u64 b1]] = inv_clipped.c (fun q => some (v9 q)) a0 a1 b0 b1 := by kernel_rfl
theorem inv_clipped.t : TabOK P G (tab L_inv_clipped) :=
  TabOK_mkL C inv_minus.t Tryz.func235 (by kernel_rfl) { merge := true, glue := true } (fun c _ => LoopsOK_nil c) 60 (by
    rintro ⟨⟨a0, a1, ⟨⟩⟩, ⟨b0, b1, ⟨⟩⟩, ⟨⟩⟩ h
    exact (inv_clipped.r a0 a1 b0 b1).trans (inv_clipped.p (fun q => some (.agg #[.bool (q).1, .int .i64 (q).2.1, .int .i64 (q).2.2.1, .int .u64 (q).2.2.2.1, .int .u64 (q).2.2.2.2] : Value)) a0 a1 b0 b1))
def inv_corners.c0 {γ : Type} (k : Int × Int × Int × Int → γ) (a0 : Bool) (a1 a2 a3 a4 : Int) (b0 : Bool) (b1 b2 b3 b4 : Int) (t1 t2 t3 t4 : Int × Int) (t5 : Bool) (t6 t7 : Int) (t8 : Bool) (t9 t10 : Int) (t11 : Bool) (t12 t13 : Int) (t14 : Bool) (t15 t16 : Int) (t17 : Bool) (t18 t19 : Int) (t20 : Bool) (t21 t22 : Int) : γ := k (t12, t13, t21, t22)
def inv_corners.c {γ : Type} (k : Int × Int × Int × Int → γ) (a0 : Bool) (a1 a2 a3 a4 : Int) (b0 : Bool) (b1 b2 b3 b4 : Int) : γ := let t1 := inv_product a2 b2; let t2 := inv_product a2 b1; let t3 := inv_product a1 b2; let t4 := inv_product a1 b1; let t5 := inv_wless t3.1 t3.2 t4.1 t4.2; let t6 := bif t5 then t3.1 else t4.1; let t7 := bif t5 then t3.2 else t4.2; let t8 := inv_wless t2.1 t2.2 t6 t7; let t9 := bif t8 then t2.1 else t6; let t10 := bif t8 then t2.2 else t7; let t11 := inv_wless t1.1 t1.2 t9 t10; let t12 := bif t11 then t1.1 else t9; let t13 := bif t11 then t1.2 else t10; let t14 := inv_wless t4.1 t4.2 t3.1 t3.2; let t15 := bif t14 then t3.1 else t4.1; let t16 := bif t14 then t3.2 else t4.2; let t17 := inv_wless t15 t16 t2.1 t2.2; let t18 := bif t17 then t2.1 else t15; let t19 := bif t17 then t2.2 else t16; let t20 := inv_wless t18 t19 t1.1 t1.2; let t21 := bif t20 then t1.1 else t18; let t22 := bif t20 then t1.2 else t19; inv_corners.c0 k a0 a1 a2 a3 a4 b0 b1 b2 b3 b4 t1 t2 t3 t4 t5 t6 t7 t8 t9 t10 t11 t12 t13 t14 t15 t16 t17 t18 t19 t20 t21 t22
def inv_corners (a0 : Bool) (a1 a2 a3 a4 : Int) (b0 : Bool) (b1 b2 b3 b4 : Int) : Int × Int × Int × Int := inv_corners.c id a0 a1 a2 a3 a4 b0 b1 b2 b3 b4
def v13 (q : Int × Int × Int × Int) : Value := .tuple #[.agg #[.int .i64 q.1, .int .u64 q.2.1], .agg #[.int .i64 q.2.2.1, .int .u64 q.2.2.2]]
def inv_corners.F : FV := mkF (cP cN (cP cN cU)) (fun _ => true) (fun | ((a0, a1, a2, a3, a4, ()), (b0, b1, b2, b3, b4, ()), ()) => v13 (inv_corners a0 a1 a2 a3 a4 b0 b1 b2 b3 b4))
def L_inv_corners : TL := (233, inv_corners.F) :: L_inv_clipped
theorem inv_corners.p0 {γ : Type} (k : Int × Int × Int × Int → γ) (a0 a1 a2 a3 a4 b0 b1 b2 b3 b4 t1 t2 t3 t4 t5 t6 t7 t8 t9 t10 t11 t12 t13 t14 t15 t16 t17 t18 t19 t20 t21 t22) : inv_corners.c0 k a0 a1 a2 a3 a4 b0 b1 b2 b3 b4 t1 t2 t3 t4 t5 t6 t7 t8 t9 t10 t11 t12 t13 t14 t15 t16 t17 t18 t19 t20 t21 t22 = k (inv_corners.c0 id a0 a1 a2 a3 a4 b0 b1 b2 b3 b4 t1 t2 t3 t4 t5 t6 t7 t8 t9 t10 t11 t12 t13 t14 t15 t16 t17 t18 t19 t20 t21 t22) := by
  unfold inv_corners.c0; (repeat' (first | (apply pc k) | (exact rfl)))
theorem inv_corners.p {γ : Type} (k : Int × Int × Int × Int → γ) (a0 : Bool) (a1 a2 a3 a4 : Int) (b0 : Bool) (b1 b2 b3 b4 : Int) : inv_corners.c k a0 a1 a2 a3 a4 b0 b1 b2 b3 b4 = k (inv_corners a0 a1 a2 a3 a4 b0 b1 b2 b3 b4) := by
  unfold inv_corners inv_corners.c; apply inv_corners.p0
theorem inv_corners.r (a0 : Bool) (a1 a2 a3 a4 : Int) (b0 : Bool) (b1 b2 b3 b4 : Int) : runF P G (tab L_inv_clipped) { merge := true, glue := true } 60 Tryz.f233 [wN a0 a1 a2 a3 a4, wN b0 b1 b2 b3 b4] = inv_corners.c (fun q => some (v13 q)) a0 a1 a2 a3 a4 b0 b1 b2 b3 b4 := by kernel_rfl
theorem inv_corners.t : TabOK P G (tab L_inv_corners) :=
  TabOK_mkL C inv_clipped.t Tryz.func233 (by kernel_rfl) { merge := true, glue := true } (fun c _ => LoopsOK_nil c) 60 (by
    rintro ⟨⟨a0, a1, a2, a3, a4, ⟨⟩⟩, ⟨b0, b1, b2, b3, b4, ⟨⟩⟩, ⟨⟩⟩ h
    exact (inv_corners.r a0 a1 a2 a3 a4 b0 b1 b2 b3 b4).trans (inv_corners.p (fun q => some (.tuple #[.agg #[.int .i64 (q).1, .int .u64 (q).2.1], .agg #[.int .i64 (q).2.2.1, .int .u64 (q).2.2.2]] : Value)) a0 a1 a2 a3 a4 b0 b1 b2 b3 b4))
def inv_far.c0 {γ : Type} (k : Int → γ) (a t1 t2 : Int) : γ := bif decide (a < 0)
then k (t2)
else k (t1)
def inv_far.c {γ : Type} (k : Int → γ) (a : Int) : γ := let t1 := IntKind.u64.wrap a; let t2 := IntKind.u64.wrap (0 - t1); inv_far.c0 k a t1 t2
def inv_far (a : Int) : Int := inv_far.c id a
def inv_far.F : FV := mkF (cP (cI .i64) cU) (fun _ => true) (fun | (a, ()) => .int .u64 (inv_far a))
def L_inv_far : TL := (234, inv_far.F) :: L_inv_corners
theorem inv_far.p0 {γ : Type} (k : Int → γ) (a t1 t2) : inv_far.c0 k a t1 t2 = k (inv_far.c0 id a t1 t2) := by
  unfold inv_far.c0; (repeat' (first | (apply pc k) | (exact rfl)))
theorem inv_far.p {γ : Type} (k : Int → γ) (a : Int) : inv_far.c k a = k (inv_far a) := by
  unfold inv_far inv_far.c; apply inv_far.p0
theorem inv_far.r (a : Int) : runF P G (tab L_inv_corners) { merge := true, glue := true } 60 Tryz.f234 [.int .i64 a] = inv_far.c (fun q => some (.int .u64 (q) : Value)) a := by kernel_rfl
theorem inv_far.t : TabOK P G (tab L_inv_far) :=
  TabOK_mkL C inv_corners.t Tryz.func234 (by kernel_rfl) { merge := true, glue := true } (fun c _ => LoopsOK_nil c) 60 (by
    rintro ⟨a, ⟨⟩⟩ h
    exact (inv_far.r a).trans (inv_far.p (fun q => some (.int .u64 (q) : Value)) a))
def inv_does.c0 {γ : Type} (n : γ) (k : N5 → γ) (a : Int) (b0 : Bool) (b1 b2 b3 b4 : Int) (c0 : Bool) (c1 c2 c3 c4 : Int) (t1 : Bool) (t2 : Bool × Int × Int × Int × Int × Int) : γ := bif t1
then k (t2.1, t2.2.1, t2.2.2.1, t2.2.2.2.1, t2.2.2.2.2.1)
else n
def inv_does.c {γ : Type} (n : γ) (k : N5 → γ) (a : Int) (b0 : Bool) (b1 b2 b3 b4 : Int) (c0 : Bool) (c1 c2 c3 c4 : Int) : γ := let t1 := num_Apply.ok a b0 b1 b2 b3 b4 c0 c1 c2 c3 c4; let t2 := num_Apply a b0 b1 b2 b3 b4 c0 c1 c2 c3 c4; inv_does.c0 n k a b0 b1 b2 b3 b4 c0 c1 c2 c3 c4 t1 t2
def inv_does.ok (a : Int) (b0 : Bool) (b1 b2 b3 b4 : Int) (c0 : Bool) (c1 c2 c3 c4 : Int) : Bool := inv_does.c false (fun _ => true) a b0 b1 b2 b3 b4 c0 c1 c2 c3 c4
def inv_does (a : Int) (b0 : Bool) (b1 b2 b3 b4 : Int) (c0 : Bool) (c1 c2 c3 c4 : Int) : N5 := inv_does.c (false, 0, 0, 0, 0) id a b0 b1 b2 b3 b4 c0 c1 c2 c3 c4
def inv_does.F : FV := mkF (cP (cI .i64) (cP cN (cP cN cU))) (fun | (a, (b0, b1, b2, b3, b4, ()), (c0, c1, c2, c3, c4, ()), ()) => inv_does.ok a b0 b1 b2 b3 b4 c0 c1 c2 c3 c4) (fun | (a, (b0, b1, b2, b3, b4, ()), (c0, c1, c2, c3, c4, ()), ()) => v9 (inv_does a b0 b1 b2 b3 b4 c0 c1 c2 c3 c4))
def L_inv_does : TL := (231, inv_does.F) :: L_inv_far
theorem inv_does.p0 {γ : Type} (k : N5 → γ) (a b0 b1 b2 b3 b4 c0 c1 c2 c3 c4 t1 t2) : inv_does.c0 false (fun _ => true) a b0 b1 b2 b3 b4 c0 c1 c2 c3 c4 t1 t2 = true → inv_does.c0 none (fun q => some (k q)) a b0 b1 b2 b3 b4 c0 c1 c2 c3 c4 t1 t2 = some (k (inv_does.c0 (false, 0, 0, 0, 0) id a b0 b1 b2 b3 b4 c0 c1 c2 c3 c4 t1 t2)) := by
  unfold inv_does.c0; (repeat' (first | (apply pn k) | (exact pn_none _ _) | (exact pn_leaf k _)))
theorem inv_does.p {γ : Type} (k : N5 → γ) (a : Int) (b0 : Bool) (b1 b2 b3 b4 : Int) (c0 : Bool) (c1 c2 c3 c4 : Int) (h : inv_does.ok a b0 b1 b2 b3 b4 c0 c1 c2 c3 c4 = true) : inv_does.c none (fun q => some (k q)) a b0 b1 b2 b3 b4 c0 c1 c2 c3 c4 = some (k (inv_does a b0 b1 b2 b3 b4 c0 c1 c2 c3 c4)) := by
  revert h; unfold inv_does.ok inv_does inv_does.c; apply inv_does.p0
theorem inv_does.r (a : Int) (b0 : Bool) (b1 b2 b3 b4 : Int) (c0 : Bool) (c1 c2 c3 c4 : Int) : runF P G (tab L_inv_far) { merge := true, glue := true } 60 Tryz.f231 [.int .i64 a, wN b0 b1 b2 b3 b4, wN c0 c1 c2 c3 c4] = inv_does.c none (fun q => some (v9 q)) a b0 b1 b2 b3 b4 c0 c1 c2 c3 c4 := by kernel_rfl
theorem inv_does.t : TabOK P G (tab L_inv_does) :=
  TabOK_mkL C inv_far.t Tryz.func231 (by kernel_rfl) { merge := true, glue := true } (fun c _ => LoopsOK_nil c) 60 (by
    rintro ⟨a, ⟨b0, b1, b2, b3, b4, ⟨⟩⟩, ⟨c0, c1, c2, c3, c4, ⟨⟩⟩, ⟨⟩⟩ h
    exact (inv_does.r a b0 b1 b2 b3 b4 c0 c1 c2 c3 c4).trans (inv_does.p v9 a b0 b1 b2 b3 b4 c0 c1 c2 c3 c4 h))
def inv_inverse.c0 {γ : Type} (k : Int → γ) (a t1 t2 t3 t4 t5 t6 t7 t8 t9 t10 t11 t12 t13 t14 t15 t16 t17 t18 t19 t20 : Int) : γ := k (t20)
def inv_inverse.c {γ : Type} (k : Int → γ) (a : Int) : γ := let t1 := IntKind.u64.wrap a; let t2 := IntKind.u64.wrap (t1 * 1); let t3 := IntKind.u64.wrap (2 - t2); let t4 := IntKind.u64.wrap (1 * t3); let t5 := IntKind.u64.wrap (t1 * t4); let t6 := IntKind.u64.wrap (2 - t5); let t7 := IntKind.u64.wrap (t4 * t6); let t8 := IntKind.u64.wrap (t1 * t7); let t9 := IntKind.u64.wrap (2 - t8); let t10 := IntKind.u64.wrap (t7 * t9); let t11 := IntKind.u64.wrap (t1 * t10); let t12 := IntKind.u64.wrap (2 - t11); let t13 := IntKind.u64.wrap (t10 * t12); let t14 := IntKind.u64.wrap (t1 * t13); let t15 := IntKind.u64.wrap (2 - t14); let t16 := IntKind.u64.wrap (t13 * t15); let t17 := IntKind.u64.wrap (t1 * t16); let t18 := IntKind.u64.wrap (2 - t17); let t19 := IntKind.u64.wrap (t16 * t18); let t20 := IntKind.i64.wrap t19; inv_inverse.c0 k a t1 t2 t3 t4 t5 t6 t7 t8 t9 t10 t11 t12 t13 t14 t15 t16 t17 t18 t19 t20
def inv_inverse (a : Int) : Int := inv_inverse.c id a
def inv_inverse.F : FV := mkF (cP (cI .i64) cU) (fun _ => true) (fun | (a, ()) => .int .i64 (inv_inverse a))
def L_inv_inverse : TL := (258, inv_inverse.F) :: L_inv_does
theorem inv_inverse.p0 {γ : Type} (k : Int → γ) (a t1 t2 t3 t4 t5 t6 t7 t8 t9 t10 t11 t12 t13 t14 t15 t16 t17 t18 t19 t20) : inv_inverse.c0 k a t1 t2 t3 t4 t5 t6 t7 t8 t9 t10 t11 t12 t13 t14 t15 t16 t17 t18 t19 t20 = k (inv_inverse.c0 id a t1 t2 t3 t4 t5 t6 t7 t8 t9 t10 t11 t12 t13 t14 t15 t16 t17 t18 t19 t20) := by
  unfold inv_inverse.c0; (repeat' (first | (apply pc k) | (exact rfl)))
theorem inv_inverse.p {γ : Type} (k : Int → γ) (a : Int) : inv_inverse.c k a = k (inv_inverse a) := by
  unfold inv_inverse inv_inverse.c; apply inv_inverse.p0
theorem inv_inverse.r (a : Int) : runF P G (tab L_inv_does) { merge := true, glue := true } 60 Tryz.f258 [.int .i64 a] = inv_inverse.c (fun q => some (.int .i64 (q) : Value)) a := by kernel_rfl
theorem inv_inverse.t : TabOK P G (tab L_inv_inverse) :=
  TabOK_mkL C inv_does.t Tryz.func258 (by kernel_rfl) { merge := true, glue := true } (fun c _ => LoopsOK_nil c) 60 (by
    rintro ⟨a, ⟨⟩⟩ h
    exact (inv_inverse.r a).trans (inv_inverse.p (fun q => some (.int .i64 (q) : Value)) a))
def inv_factor.c0 {γ : Type} (n : γ) (k : N5 → γ) (a0 : Bool) (a1 a2 a3 a4 : Int) (b0 : Bool) (b1 b2 b3 b4 : Int) (c0 : Bool) (c1 c2 c3 c4 : Int) (t1 : Int × Bool) (t2 : Bool) (t3 : Int) (t4 : N5) (t5 : Bool) (t6 : N5) (t7 : Bool) (t8 : Int × Int × Int × Int) (t9 t10 t11 t12 t13 t14 : Bool) (t15 t16 : N5) (t17 : Bool) (t18 : N5) (t19 : Bool) (t20 : N5) : γ := bif t2
then bif t5
then bif t7
then bif t13
then bif t14
then bif t17
then k (t18.1, t18.2.1, t18.2.2.1, t18.2.2.2.1, t18.2.2.2.2)
else n
else n
else k (t15.1, t15.2.1, t15.2.2.1, t15.2.2.2.1, t15.2.2.2.2)
else n
else n
else bif t13
then bif t14
then bif t19
then k (t20.1, t20.2.1, t20.2.2.1, t20.2.2.2.1, t20.2.2.2.2)
else n
else n
else k (a0, a1, a2, a3, a4)
def inv_factor.c {γ : Type} (n : γ) (k : N5 → γ) (a0 : Bool) (a1 a2 a3 a4 : Int) (b0 : Bool) (b1 b2 b3 b4 : Int) (c0 : Bool) (c1 c2 c3 c4 : Int) : γ := let t1 := inv_one b0 b1 b2 b3 b4; let t2 := bif t1.2 then andI IntKind.i64 t1.1 1 == 1 else false; let t3 := inv_inverse t1.1; let t4 := num_Const t3; let t5 := inv_does.ok 5 c0 c1 c2 c3 c4 t4.1 t4.2.1 t4.2.2.1 t4.2.2.2.1 t4.2.2.2.2; let t6 := inv_does 5 c0 c1 c2 c3 c4 t4.1 t4.2.1 t4.2.2.1 t4.2.2.2.1 t4.2.2.2.2; let t7 := num_Meet.ok a0 a1 a2 a3 a4 t6.1 t6.2.1 t6.2.2.1 t6.2.2.2.1 t6.2.2.2.2; let t8 := inv_corners a0 a1 a2 a3 a4 b0 b1 b2 b3 b4; let t9 := inv_fits t8.1 t8.2.1; let t10 := inv_fits t8.2.2.1 t8.2.2.2; let t11 := bif t9 then t10 else false; let t12 := num_Has b0 b1 b2 b3 b4 0; let t13 := bif t11 then !t12 else false; let t14 := inv_does.ok 6 c0 c1 c2 c3 c4 b0 b1 b2 b3 b4; let t15 := num_Meet a0 a1 a2 a3 a4 t6.1 t6.2.1 t6.2.2.1 t6.2.2.2.1 t6.2.2.2.2; let t16 := inv_does 6 c0 c1 c2 c3 c4 b0 b1 b2 b3 b4; let t17 := num_Meet.ok t15.1 t15.2.1 t15.2.2.1 t15.2.2.2.1 t15.2.2.2.2 t16.1 t16.2.1 t16.2.2.1 t16.2.2.2.1 t16.2.2.2.2; let t18 := num_Meet t15.1 t15.2.1 t15.2.2.1 t15.2.2.2.1 t15.2.2.2.2 t16.1 t16.2.1 t16.2.2.1 t16.2.2.2.1 t16.2.2.2.2; let t19 := num_Meet.ok a0 a1 a2 a3 a4 t16.1 t16.2.1 t16.2.2.1 t16.2.2.2.1 t16.2.2.2.2; let t20 := num_Meet a0 a1 a2 a3 a4 t16.1 t16.2.1 t16.2.2.1 t16.2.2.2.1 t16.2.2.2.2; inv_factor.c0 n k a0 a1 a2 a3 a4 b0 b1 b2 b3 b4 c0 c1 c2 c3 c4 t1 t2 t3 t4 t5 t6 t7 t8 t9 t10 t11 t12 t13 t14 t15 t16 t17 t18 t19 t20
def inv_factor.ok (a0 : Bool) (a1 a2 a3 a4 : Int) (b0 : Bool) (b1 b2 b3 b4 : Int) (c0 : Bool) (c1 c2 c3 c4 : Int) : Bool := inv_factor.c false (fun _ => true) a0 a1 a2 a3 a4 b0 b1 b2 b3 b4 c0 c1 c2 c3 c4
def inv_factor (a0 : Bool) (a1 a2 a3 a4 : Int) (b0 : Bool) (b1 b2 b3 b4 : Int) (c0 : Bool) (c1 c2 c3 c4 : Int) : N5 := inv_factor.c (false, 0, 0, 0, 0) id a0 a1 a2 a3 a4 b0 b1 b2 b3 b4 c0 c1 c2 c3 c4
def inv_factor.F : FV := mkF (cP cN (cP cN (cP cN cU))) (fun | ((a0, a1, a2, a3, a4, ()), (b0, b1, b2, b3, b4, ()), (c0, c1, c2, c3, c4, ()), ()) => inv_factor.ok a0 a1 a2 a3 a4 b0 b1 b2 b3 b4 c0 c1 c2 c3 c4) (fun | ((a0, a1, a2, a3, a4, ()), (b0, b1, b2, b3, b4, ()), (c0, c1, c2, c3, c4, ()), ()) => v9 (inv_factor a0 a1 a2 a3 a4 b0 b1 b2 b3 b4 c0 c1 c2 c3 c4))
def L_inv_factor : TL := (232, inv_factor.F) :: L_inv_inverse
theorem inv_factor.p0 {γ : Type} (k : N5 → γ) (a0 a1 a2 a3 a4 b0 b1 b2 b3 b4 c0 c1 c2 c3 c4 t1 t2 t3 t4 t5 t6 t7 t8 t9 t10 t11 t12 t13 t14 t15 t16 t17 t18 t19 t20) : inv_factor.c0 false (fun _ => true) a0 a1 a2 a3 a4 b0 b1 b2 b3 b4 c0 c1 c2 c3 c4 t1 t2 t3 t4 t5 t6 t7 t8 t9 t10 t11 t12 t13 t14 t15 t16 t17 t18 t19 t20 = true → inv_factor.c0 none (fun q => some (k q)) a0 a1 a2 a3 a4 b0 b1 b2 b3 b4 c0 c1 c2 c3 c4 t1 t2 t3 t4 t5 t6 t7 t8 t9 t10 t11 t12 t13 t14 t15 t16 t17 t18 t19 t20 = some (k (inv_factor.c0 (false, 0, 0, 0, 0) id a0 a1 a2 a3 a4 b0 b1 b2 b3 b4 c0 c1 c2 c3 c4 t1 t2 t3 t4 t5 t6 t7 t8 t9 t10 t11 t12 t13 t14 t15 t16 t17 t18 t19 t20)) := by
  unfold inv_factor.c0; (repeat' (first | (apply pn k) | (exact pn_none _ _) | (exact pn_leaf k _)))
theorem inv_factor.p {γ : Type} (k : N5 → γ) (a0 : Bool) (a1 a2 a3 a4 : Int) (b0 : Bool) (b1 b2 b3 b4 : Int) (c0 : Bool) (c1 c2 c3 c4 : Int) (h : inv_factor.ok a0 a1 a2 a3 a4 b0 b1 b2 b3 b4 c0 c1 c2 c3 c4 = true) : inv_factor.c none (fun q => some (k q)) a0 a1 a2 a3 a4 b0 b1 b2 b3 b4 c0 c1 c2 c3 c4 = some (k (inv_factor a0 a1 a2 a3 a4 b0 b1 b2 b3 b4 c0 c1 c2 c3 c4)) := by
  revert h; unfold inv_factor.ok inv_factor inv_factor.c; apply inv_factor.p0
theorem inv_factor.r (a0 : Bool) (a1 a2 a3 a4 : Int) (b0 : Bool) (b1 b2 b3 b4 : Int) (c0 : Bool) (c1 c2 c3 c4 : Int) : runF P G (tab L_inv_inverse) { merge := true, glue := true } 60 Tryz.f232 [wN a0 a1 a2 a3 a4, wN b0 b1 b2 b3 b4, wN c0 c1 c2 c3 c4] = inv_factor.c none (fun q => some (v9 q)) a0 a1 a2 a3 a4 b0 b1 b2 b3 b4 c0 c1 c2 c3 c4 := by kernel_rfl
theorem inv_factor.t : TabOK P G (tab L_inv_factor) :=
  TabOK_mkL C inv_inverse.t Tryz.func232 (by kernel_rfl) { merge := true, glue := true } (fun c _ => LoopsOK_nil c) 60 (by
    rintro ⟨⟨a0, a1, a2, a3, a4, ⟨⟩⟩, ⟨b0, b1, b2, b3, b4, ⟨⟩⟩, ⟨c0, c1, c2, c3, c4, ⟨⟩⟩, ⟨⟩⟩ h
    exact (inv_factor.r a0 a1 a2 a3 a4 b0 b1 b2 b3 b4 c0 c1 c2 c3 c4).trans (inv_factor.p v9 a0 a1 a2 a3 a4 b0 b1 b2 b3 b4 c0 c1 c2 c3 c4 h))
def inv_quotient.c0 {γ : Type} (n : γ) (k : N10 → γ) (a0 : Bool) (a1 a2 a3 a4 : Int) (b0 : Bool) (b1 b2 b3 b4 : Int) (c0 : Bool) (c1 c2 c3 c4 : Int) (t1 : N5) (t2 t3 t4 t5 t6 : Bool) (t7 : Int × Int × Int × Int) (t8 t9 t10 t11 : Int) (t12 t13 : Int × Int) (t14 : N5) (t15 : Bool) (t16 : N5) : γ := bif t1.1
then k (t1.1, t1.2.1, t1.2.2.1, t1.2.2.2.1, t1.2.2.2.2, t1.1, t1.2.1, t1.2.2.1, t1.2.2.2.1, t1.2.2.2.2)
else bif t6
then k (a0, a1, a2, a3, a4, t1.1, t1.2.1, t1.2.2.1, t1.2.2.2.1, t1.2.2.2.2)
else bif t15
then k (t16.1, t16.2.1, t16.2.2.1, t16.2.2.2.1, t16.2.2.2.2, t1.1, t1.2.1, t1.2.2.1, t1.2.2.2.1, t1.2.2.2.2)
else n
def inv_quotient.c {γ : Type} (n : γ) (k : N10 → γ) (a0 : Bool) (a1 a2 a3 a4 : Int) (b0 : Bool) (b1 b2 b3 b4 : Int) (c0 : Bool) (c1 c2 c3 c4 : Int) : γ := let t1 := num_NonZero b0 b1 b2 b3 b4; let t2 := num_Has a0 a1 a2 a3 a4 (-9223372036854775808); let t3 := num_Has t1.1 t1.2.1 t1.2.2.1 t1.2.2.2.1 t1.2.2.2.2 (-1); let t4 := bif t2 then t3 else false; let t5 := num_Has c0 c1 c2 c3 c4 (-9223372036854775808); let t6 := bif t4 then t5 else false; let t7 := inv_corners c0 c1 c2 c3 c4 t1.1 t1.2.1 t1.2.2.1 t1.2.2.2.1 t1.2.2.2.2; let t8 := inv_far t1.2.2.1; let t9 := inv_far t1.2.1; let t10 := if t8 > t9 then t8 else t9; let t11 := IntKind.u64.wrap (t10 - 1); let t12 := inv_minus t7.1 t7.2.1 0 t11; let t13 := inv_plus t7.2.2.1 t7.2.2.2 0 t11; let t14 := inv_clipped t12.1 t12.2 t13.1 t13.2; let t15 := num_Meet.ok a0 a1 a2 a3 a4 t14.1 t14.2.1 t14.2.2.1 t14.2.2.2.1 t14.2.2.2.2; let t16 := num_Meet a0 a1 a2 a3 a4 t14.1 t14.2.1 t14.2.2.1 t14.2.2.2.1 t14.2.2.2.2; inv_quotient.c0 n k a0 a1 a2 a3 a4 b0 b1 b2 b3 b4 c0 c1 c2 c3 c4 t1 t2 t3 t4 t5 t6 t7 t8 t9 t10 t11 t12 t13 t14 t15 t16
def inv_quotient.ok (a0 : Bool) (a1 a2 a3 a4 : Int) (b0 : Bool) (b1 b2 b3 b4 : Int) (c0 : Bool) (c1 c2 c3 c4 : Int) : Bool := inv_quotient.c false (fun _ => true) a0 a1 a2 a3 a4 b0 b1 b2 b3 b4 c0 c1 c2 c3 c4
def inv_quotient (a0 : Bool) (a1 a2 a3 a4 : Int) (b0 : Bool) (b1 b2 b3 b4 : Int) (c0 : Bool) (c1 c2 c3 c4 : Int) : N10 := inv_quotient.c (false, 0, 0, 0, 0, false, 0, 0, 0, 0) id a0 a1 a2 a3 a4 b0 b1 b2 b3 b4 c0 c1 c2 c3 c4
def inv_quotient.F : FV := mkF (cP cN (cP cN (cP cN cU))) (fun | ((a0, a1, a2, a3, a4, ()), (b0, b1, b2, b3, b4, ()), (c0, c1, c2, c3, c4, ()), ()) => inv_quotient.ok a0 a1 a2 a3 a4 b0 b1 b2 b3 b4 c0 c1 c2 c3 c4) (fun | ((a0, a1, a2, a3, a4, ()), (b0, b1, b2, b3, b4, ()), (c0, c1, c2, c3, c4, ()), ()) => v12 (inv_quotient a0 a1 a2 a3 a4 b0 b1 b2 b3 b4 c0 c1 c2 c3 c4))
def L_inv_quotient : TL := (178, inv_quotient.F) :: L_inv_factor
theorem inv_quotient.p0 {γ : Type} (k : N10 → γ) (a0 a1 a2 a3 a4 b0 b1 b2 b3 b4 c0 c1 c2 c3 c4 t1 t2 t3 t4 t5 t6 t7 t8 t9 t10 t11 t12 t13 t14 t15 t16) : inv_quotient.c0 false (fun _ => true) a0 a1 a2 a3 a4 b0 b1 b2 b3 b4 c0 c1 c2 c3 c4 t1 t2 t3 t4 t5 t6 t7 t8 t9 t10 t11 t12 t13 t14 t15 t16 = true → inv_quotient.c0 none (fun q => some (k q)) a0 a1 a2 a3 a4 b0 b1 b2 b3 b4 c0 c1 c2 c3 c4 t1 t2 t3 t4 t5 t6 t7 t8 t9 t10 t11 t12 t13 t14 t15 t16 = some (k (inv_quotient.c0 (false, 0, 0, 0, 0, false, 0, 0, 0, 0) id a0 a1 a2 a3 a4 b0 b1 b2 b3 b4 c0 c1 c2 c3 c4 t1 t2 t3 t4 t5 t6 t7 t8 t9 t10 t11 t12 t13 t14 t15 t16)) := by
  unfold inv_quotient.c0; (repeat' (first | (apply pn k) | (exact pn_none _ _) | (exact pn_leaf k _)))
theorem inv_quotient.p {γ : Type} (k : N10 → γ) (a0 : Bool) (a1 a2 a3 a4 : Int) (b0 : Bool) (b1 b2 b3 b4 : Int) (c0 : Bool) (c1 c2 c3 c4 : Int) (h : inv_quotient.ok a0 a1 a2 a3 a4 b0 b1 b2 b3 b4 c0 c1 c2 c3 c4 = true) : inv_quotient.c none (fun q => some (k q)) a0 a1 a2 a3 a4 b0 b1 b2 b3 b4 c0 c1 c2 c3 c4 = some (k (inv_quotient a0 a1 a2 a3 a4 b0 b1 b2 b3 b4 c0 c1 c2 c3 c4)) := by
  revert h; unfold inv_quotient.ok inv_quotient inv_quotient.c; apply inv_quotient.p0
theorem inv_quotient.r (a0 : Bool) (a1 a2 a3 a4 : Int) (b0 : Bool) (b1 b2 b3 b4 : Int) (c0 : Bool) (c1 c2 c3 c4 : Int) : runF P G (tab L_inv_factor) { merge := true, glue := true } 60 Tryz.f178 [wN a0 a1 a2 a3 a4, wN b0 b1 b2 b3 b4, wN c0 c1 c2 c3 c4] = inv_quotient.c none (fun q => some (v12 q)) a0 a1 a2 a3 a4 b0 b1 b2 b3 b4 c0 c1 c2 c3 c4 := by kernel_rfl
theorem inv_quotient.t : TabOK P G (tab L_inv_quotient) :=
  TabOK_mkL C inv_factor.t Tryz.func178 (by kernel_rfl) { merge := true, glue := true } (fun c _ => LoopsOK_nil c) 60 (by
    rintro ⟨⟨a0, a1, a2, a3, a4, ⟨⟩⟩, ⟨b0, b1, b2, b3, b4, ⟨⟩⟩, ⟨c0, c1, c2, c3, c4, ⟨⟩⟩, ⟨⟩⟩ h
    exact (inv_quotient.r a0 a1 a2 a3 a4 b0 b1 b2 b3 b4 c0 c1 c2 c3 c4).trans (inv_quotient.p v12 a0 a1 a2 a3 a4 b0 b1 b2 b3 b4 c0 c1 c2 c3 c4 h))
def inv_remainder.c0 {γ : Type} (n : γ) (k : N10 → γ) (a0 : Bool) (a1 a2 a3 a4 : Int) (b0 : Bool) (b1 b2 b3 b4 : Int) (c0 : Bool) (c1 c2 c3 c4 : Int) (t1 t2 : N5) (t3 : Bool) (t4 : Int) (t5 t6 t7 : Int × Int) (t8 : N5) (t9 : Bool) (t10 : N5) (t11 : Int × Bool) (t12 : Int) (t13 t14 : Bool) (t15 : N5) (t16 t17 t18 : Int) (t19 : N5) (t20 : Bool) (t21 : N5) (t22 t23 t24 : Int × Int) (t25 : N5) (t26 : Bool) (t27 : N5) (t28 : Int × Bool) (t29 : Int) (t30 t31 : Bool) (t32 t33 t34 : Int) (t35 : N5) (t36 : Bool) (t37 : N5) (t38 : Int × Bool) (t39 : Int) (t40 t41 : Bool) (t42 t43 t44 : Int) (t45 : N5) (t46 : Bool) (t47 t48 : N5) (t49 : Bool) (t50 : Int) (t51 : Int × Int) (t52 : N5) (t53 : Bool) (t54 : N5) (t55 : Int × Bool) (t56 : Int) (t57 t58 : Bool) (t59 : N5) (t60 t61 t62 : Int) (t63 : N5) (t64 : Bool) (t65 : N5) (t66 : Int × Int) (t67 : N5) (t68 : Bool) (t69 : N5) (t70 : Int × Bool) (t71 : Int) (t72 t73 : Bool) (t74 t75 t76 : Int) (t77 : N5) (t78 : Bool) (t79 : N5) (t80 : Bool) (t81 : N5) (t82 : Bool) (t83 : N5) : γ := bif t1.1
then k (t1.1, t1.2.1, t1.2.2.1, t1.2.2.2.1, t1.2.2.2.2, t1.1, t1.2.1, t1.2.2.1, t1.2.2.2.1, t1.2.2.2.2)
else bif decide (c1 > 0)
then bif t3
then bif decide (t4 > 0)
then bif decide (t1.2.1 > 0)
then bif t9
then bif t11.2
then bif t13 && true && true || t14
then bif t20
then k (t21.1, t21.2.1, t21.2.2.1, t21.2.2.2.1, t21.2.2.2.2, t10.1, t10.2.1, t10.2.2.1, t10.2.2.2.1, t10.2.2.2.2)
else n
else n
else k (t15.1, t15.2.1, t15.2.2.1, t15.2.2.2.1, t15.2.2.2.2, t10.1, t10.2.1, t10.2.2.1, t10.2.2.2.1, t10.2.2.2.2)
else n
else bif decide (t1.2.2.1 < 0)
then bif t26
then bif t28.2
then bif t30 && true && true || t31
then bif t36
then k (t37.1, t37.2.1, t37.2.2.1, t37.2.2.2.1, t37.2.2.2.2, t27.1, t27.2.1, t27.2.2.1, t27.2.2.2.1, t27.2.2.2.2)
else n
else n
else k (t15.1, t15.2.1, t15.2.2.1, t15.2.2.2.1, t15.2.2.2.2, t27.1, t27.2.1, t27.2.2.1, t27.2.2.2.1, t27.2.2.2.2)
else n
else bif t38.2
then bif t40 && true && true || t41
then bif t46
then k (t47.1, t47.2.1, t47.2.2.1, t47.2.2.2.1, t47.2.2.2.2, t1.1, t1.2.1, t1.2.2.1, t1.2.2.2.1, t1.2.2.2.2)
else n
else n
else k (t15.1, t15.2.1, t15.2.2.1, t15.2.2.2.1, t15.2.2.2.2, t1.1, t1.2.1, t1.2.2.1, t1.2.2.2.1, t1.2.2.2.2)
else bif t38.2
then bif t40 && true && true || t41
then bif t46
then k (t47.1, t47.2.1, t47.2.2.1, t47.2.2.2.1, t47.2.2.2.2, t1.1, t1.2.1, t1.2.2.1, t1.2.2.2.1, t1.2.2.2.2)
else n
else n
else k (t15.1, t15.2.1, t15.2.2.1, t15.2.2.2.1, t15.2.2.2.2, t1.1, t1.2.1, t1.2.2.1, t1.2.2.2.1, t1.2.2.2.2)
else n
else bif decide (c2 < 0)
then bif t49
then bif decide (t50 > 0)
then bif decide (t1.2.1 > 0)
then bif t53
then bif t55.2
then bif t57 && true && true || t58
then bif t64
then k (t65.1, t65.2.1, t65.2.2.1, t65.2.2.2.1, t65.2.2.2.2, t54.1, t54.2.1, t54.2.2.1, t54.2.2.2.1, t54.2.2.2.2)
else n
else n
else k (t59.1, t59.2.1, t59.2.2.1, t59.2.2.2.1, t59.2.2.2.2, t54.1, t54.2.1, t54.2.2.1, t54.2.2.2.1, t54.2.2.2.2)
else n
else bif decide (t1.2.2.1 < 0)
then bif t68
then bif t70.2
then bif t72 && true && true || t73
then bif t78
then k (t79.1, t79.2.1, t79.2.2.1, t79.2.2.2.1, t79.2.2.2.2, t69.1, t69.2.1, t69.2.2.1, t69.2.2.2.1, t69.2.2.2.2)
else n
else n
else k (t59.1, t59.2.1, t59.2.2.1, t59.2.2.2.1, t59.2.2.2.2, t69.1, t69.2.1, t69.2.2.1, t69.2.2.2.1, t69.2.2.2.2)
else n
else bif t38.2
then bif t40 && true && true || t41
then bif t80
then k (t81.1, t81.2.1, t81.2.2.1, t81.2.2.2.1, t81.2.2.2.2, t1.1, t1.2.1, t1.2.2.1, t1.2.2.2.1, t1.2.2.2.2)
else n
else n
else k (t59.1, t59.2.1, t59.2.2.1, t59.2.2.2.1, t59.2.2.2.2, t1.1, t1.2.1, t1.2.2.1, t1.2.2.2.1, t1.2.2.2.2)
else bif t38.2
then bif t40 && true && true || t41
then bif t80
then k (t81.1, t81.2.1, t81.2.2.1, t81.2.2.2.1, t81.2.2.2.2, t1.1, t1.2.1, t1.2.2.1, t1.2.2.2.1, t1.2.2.2.2)
else n
else n
else k (t59.1, t59.2.1, t59.2.2.1, t59.2.2.2.1, t59.2.2.2.2, t1.1, t1.2.1, t1.2.2.1, t1.2.2.2.1, t1.2.2.2.2)
else n
else bif t38.2
then bif t40 && true && true || t41
then bif t82
then k (t83.1, t83.2.1, t83.2.2.1, t83.2.2.2.1, t83.2.2.2.2, t1.1, t1.2.1, t1.2.2.1, t1.2.2.2.1, t1.2.2.2.2)
else n
else n
else k (a0, a1, a2, a3, a4, t1.1, t1.2.1, t1.2.2.1, t1.2.2.2.1, t1.2.2.2.2)
def inv_remainder.c {γ : Type} (n : γ) (k : N10 → γ) (a0 : Bool) (a1 a2 a3 a4 : Int) (b0 : Bool) (b1 b2 b3 b4 : Int) (c0 : Bool) (c1 c2 c3 c4 : Int) : γ := let t1 := num_NonZero b0 b1 b2 b3 b4; let t2 := inv_from c1; let t3 := num_Meet.ok a0 a1 a2 a3 a4 t2.1 t2.2.1 t2.2.2.1 t2.2.2.2.1 t2.2.2.2.2; let t4 := inv_far c1; let t5 := inv_of 1; let t6 := inv_plus 0 t4 t5.1 t5.2; let t7 := inv_of 9223372036854775807; let t8 := inv_clipped t6.1 t6.2 t7.1 t7.2; let t9 := num_Meet.ok t1.1 t1.2.1 t1.2.2.1 t1.2.2.2.1 t1.2.2.2.2 t8.1 t8.2.1 t8.2.2.1 t8.2.2.2.1 t8.2.2.2.2; let t10 := num_Meet t1.1 t1.2.1 t1.2.2.1 t1.2.2.2.1 t1.2.2.2.2 t8.1 t8.2.1 t8.2.2.1 t8.2.2.2.1 t8.2.2.2.2; let t11 := inv_one t10.1 t10.2.1 t10.2.2.1 t10.2.2.2.1 t10.2.2.2.2; let t12 := inv_far t11.1; let t13 := word_Gcd.g t12 c3; let t14 := bif decide (c3 > 0) then t13 && true else true; let t15 := num_Meet a0 a1 a2 a3 a4 t2.1 t2.2.1 t2.2.2.1 t2.2.2.2.1 t2.2.2.2.2; let t16 := word_Gcd t12 c3; let t17 := bif decide (c3 > 0) then t16 else t12; let t18 := word_Mod c1 t17; let t19 := num_Make (-9223372036854775808) 9223372036854775807 t17 t18; let t20 := num_Meet.ok t15.1 t15.2.1 t15.2.2.1 t15.2.2.2.1 t15.2.2.2.2 t19.1 t19.2.1 t19.2.2.1 t19.2.2.2.1 t19.2.2.2.2; let t21 := num_Meet t15.1 t15.2.1 t15.2.2.1 t15.2.2.2.1 t15.2.2.2.2 t19.1 t19.2.1 t19.2.2.1 t19.2.2.2.1 t19.2.2.2.2; let t22 := inv_of (-9223372036854775808); let t23 := inv_of (-1); let t24 := inv_minus t23.1 t23.2 0 t4; let t25 := inv_clipped t22.1 t22.2 t24.1 t24.2; let t26 := num_Meet.ok t1.1 t1.2.1 t1.2.2.1 t1.2.2.2.1 t1.2.2.2.2 t25.1 t25.2.1 t25.2.2.1 t25.2.2.2.1 t25.2.2.2.2; let t27 := num_Meet t1.1 t1.2.1 t1.2.2.1 t1.2.2.2.1 t1.2.2.2.2 t25.1 t25.2.1 t25.2.2.1 t25.2.2.2.1 t25.2.2.2.2; let t28 := inv_one t27.1 t27.2.1 t27.2.2.1 t27.2.2.2.1 t27.2.2.2.2; let t29 := inv_far t28.1; let t30 := word_Gcd.g t29 c3; let t31 := bif decide (c3 > 0) then t30 && true else true; let t32 := word_Gcd t29 c3; let t33 := bif decide (c3 > 0) then t32 else t29; let t34 := word_Mod c1 t33; let t35 := num_Make (-9223372036854775808) 9223372036854775807 t33 t34; let t36 := num_Meet.ok t15.1 t15.2.1 t15.2.2.1 t15.2.2.2.1 t15.2.2.2.2 t35.1 t35.2.1 t35.2.2.1 t35.2.2.2.1 t35.2.2.2.2; let t37 := num_Meet t15.1 t15.2.1 t15.2.2.1 t15.2.2.2.1 t15.2.2.2.2 t35.1 t35.2.1 t35.2.2.1 t35.2.2.2.1 t35.2.2.2.2; let t38 := inv_one t1.1 t1.2.1 t1.2.2.1 t1.2.2.2.1 t1.2.2.2.2; let t39 := inv_far t38.1; let t40 := word_Gcd.g t39 c3; let t41 := bif decide (c3 > 0) then t40 && true else true; let t42 := word_Gcd t39 c3; let t43 := bif decide (c3 > 0) then t42 else t39; let t44 := word_Mod c1 t43; let t45 := num_Make (-9223372036854775808) 9223372036854775807 t43 t44; let t46 := num_Meet.ok t15.1 t15.2.1 t15.2.2.1 t15.2.2.2.1 t15.2.2.2.2 t45.1 t45.2.1 t45.2.2.1 t45.2.2.2.1 t45.2.2.2.2; let t47 := num_Meet t15.1 t15.2.1 t15.2.2.1 t15.2.2.2.1 t15.2.2.2.2 t45.1 t45.2.1 t45.2.2.1 t45.2.2.2.1 t45.2.2.2.2; let t48 := inv_to c2; let t49 := num_Meet.ok a0 a1 a2 a3 a4 t48.1 t48.2.1 t48.2.2.1 t48.2.2.2.1 t48.2.2.2.2; let t50 := inv_far c2; let t51 := inv_plus 0 t50 t5.1 t5.2; let t52 := inv_clipped t51.1 t51.2 t7.1 t7.2; let t53 := num_Meet.ok t1.1 t1.2.1 t1.2.2.1 t1.2.2.2.1 t1.2.2.2.2 t52.1 t52.2.1 t52.2.2.1 t52.2.2.2.1 t52.2.2.2.2; let t54 := num_Meet t1.1 t1.2.1 t1.2.2.1 t1.2.2.2.1 t1.2.2.2.2 t52.1 t52.2.1 t52.2.2.1 t52.2.2.2.1 t52.2.2.2.2; let t55 := inv_one t54.1 t54.2.1 t54.2.2.1 t54.2.2.2.1 t54.2.2.2.2; let t56 := inv_far t55.1; let t57 := word_Gcd.g t56 c3; let t58 := bif decide (c3 > 0) then t57 && true else true; let t59 := num_Meet a0 a1 a2 a3 a4 t48.1 t48.2.1 t48.2.2.1 t48.2.2.2.1 t48.2.2.2.2; let t60 := word_Gcd t56 c3; let t61 := bif decide (c3 > 0) then t60 else t56; let t62 := word_Mod c1 t61; let t63 := num_Make (-9223372036854775808) 9223372036854775807 t61 t62; let t64 := num_Meet.ok t59.1 t59.2.1 t59.2.2.1 t59.2.2.2.1 t59.2.2.2.2 t63.1 t63.2.1 t63.2.2.1 t63.2.2.2.1 t63.2.2.2.2; let t65 := num_Meet t59.1 t59.2.1 t59.2.2.1 t59.2.2.2.1 t59.2.2.2.2 t63.1 t63.2.1 t63.2.2.1 t63.2.2.2.1 t63.2.2.2.2; let t66 := inv_minus t23.1 t23.2 0 t50; let t67 := inv_clipped t22.1 t22.2 t66.1 t66.2; let t68 := num_Meet.ok t1.1 t1.2.1 t1.2.2.1 t1.2.2.2.1 t1.2.2.2.2 t67.1 t67.2.1 t67.2.2.1 t67.2.2.2.1 t67.2.2.2.2; let t69 := num_Meet t1.1 t1.2.1 t1.2.2.1 t1.2.2.2.1 t1.2.2.2.2 t67.1 t67.2.1 t67.2.2.1 t67.2.2.2.1 t67.2.2.2.2; let t70 := inv_one t69.1 t69.2.1 t69.2.2.1 t69.2.2.2.1 t69.2.2.2.2; let t71 := inv_far t70.1; let t72 := word_Gcd.g t71 c3; let t73 := bif decide (c3 > 0) then t72 && true else true; let t74 := word_Gcd t71 c3; let t75 := bif decide (c3 > 0) then t74 else t71; let t76 := word_Mod c1 t75; let t77 := num_Make (-9223372036854775808) 9223372036854775807 t75 t76; let t78 := num_Meet.ok t59.1 t59.2.1 t59.2.2.1 t59.2.2.2.1 t59.2.2.2.2 t77.1 t77.2.1 t77.2.2.1 t77.2.2.2.1 t77.2.2.2.2; let t79 := num_Meet t59.1 t59.2.1 t59.2.2.1 t59.2.2.2.1 t59.2.2.2.2 t77.1 t77.2.1 t77.2.2.1 t77.2.2.2.1 t77.2.2.2.2; let t80 := num_Meet.ok t59.1 t59.2.1 t59.2.2.1 t59.2.2.2.1 t59.2.2.2.2 t45.1 t45.2.1 t45.2.2.1 t45.2.2.2.1 t45.2.2.2.2; let t81 := num_Meet t59.1 t59.2.1 t59.2.2.1 t59.2.2.2.1 t59.2.2.2.2 t45.1 t45.2.1 t45.2.2.1 t45.2.2.2.1 t45.2.2.2.2; let t82 := num_Meet.ok a0 a1 a2 a3 a4 t45.1 t45.2.1 t45.2.2.1 t45.2.2.2.1 t45.2.2.2.2; let t83 := num_Meet a0 a1 a2 a3 a4 t45.1 t45.2.1 t45.2.2.1 t45.2.2.2.1 t45.2.2.2.2; inv_remainder.c0 n k a0 a1 a2 a3 a4 b0 b1 b2 b3 b4 c0 c1 c2 c3 c4 t1 t2 t3 t4 t5 t6 t7 t8 t9 t10 t11 t12 t13 t14 t15 t16 t17 t18 t19 t20 t21 t22 t23 t24 t25 t26 t27 t28 t29 t30 t31 t32 t33 t34 t35 t36 t37 t38 t39 t40 t41 t42 t43 t44 t45 t46 t47 t48 t49 t50 t51 t52 t53 t54 t55 t56 t57 t58 t59 t60 t61 t62 t63 t64 t65 t66 t67 t68 t69 t70 t71 t72 t73 t74 t75 t76 t77 t78 t79 t80 t81 t82 t83
def inv_remainder.ok (a0 : Bool) (a1 a2 a3 a4 : Int) (b0 : Bool) (b1 b2 b3 b4 : Int) (c0 : Bool) (c1 c2 c3 c4 : Int) : Bool := inv_remainder.c false (fun _ => true) a0 a1 a2 a3 a4 b0 b1 b2 b3 b4 c0 c1 c2 c3 c4
def inv_remainder (a0 : Bool) (a1 a2 a3 a4 : Int) (b0 : Bool) (b1 b2 b3 b4 : Int) (c0 : Bool) (c1 c2 c3 c4 : Int) : N10 := inv_remainder.c (false, 0, 0, 0, 0, false, 0, 0, 0, 0) id a0 a1 a2 a3 a4 b0 b1 b2 b3 b4 c0 c1 c2 c3 c4
def inv_remainder.F : FV := mkF (cP cN (cP cN (cP cN cU))) (fun | ((a0, a1, a2, a3, a4, ()), (b0, b1, b2, b3, b4, ()), (c0, c1, c2, c3, c4, ()), ()) => inv_remainder.ok a0 a1 a2 a3 a4 b0 b1 b2 b3 b4 c0 c1 c2 c3 c4) (fun | ((a0, a1, a2, a3, a4, ()), (b0, b1, b2, b3, b4, ()), (c0, c1, c2, c3, c4, ()), ()) => v12 (inv_remainder a0 a1 a2 a3 a4 b0 b1 b2 b3 b4 c0 c1 c2 c3 c4))
def L_inv_remainder : TL := (180, inv_remainder.F) :: L_inv_quotient
theorem inv_remainder.p0 {γ : Type} (k : N10 → γ) (a0 a1 a2 a3 a4 b0 b1 b2 b3 b4 c0 c1 c2 c3 c4 t1 t2 t3 t4 t5 t6 t7 t8 t9 t10 t11 t12 t13 t14 t15 t16 t17 t18 t19 t20 t21 t22 t23 t24 t25 t26 t27 t28 t29 t30 t31 t32 t33 t34 t35 t36 t37 t38 t39 t40 t41 t42 t43 t44 t45 t46 t47 t48 t49 t50 t51 t52 t53 t54 t55 t56 t57 t58 t59 t60 t61 t62 t63 t64 t65 t66 t67 t68 t69 t70 t71 t72 t73 t74 t75 t76 t77 t78 t79 t80 t81 t82 t83) : inv_remainder.c0 false (fun _ => true) a0 a1 a2 a3 a4 b0 b1 b2 b3 b4 c0 c1 c2 c3 c4 t1 t2 t3 t4 t5 t6 t7 t8 t9 t10 t11 t12 t13 t14 t15 t16 t17 t18 t19 t20 t21 t22 t23 t24 t25 t26 t27 t28 t29 t30 t31 t32 t33 t34 t35 t36 t37 t38 t39 t40 t41 t42 t43 t44 t45 t46 t47 t48 t49 t50 t51 t52 t53 t54 t55 t56 t57 t58 t59 t60 t61 t62 t63 t64 t65 t66 t67 t68 t69 t70 t71 t72 t73 t74 t75 t76 t77 t78 t79 t80 t81 t82 t83 = true → inv_remainder.c0 none (fun q => some (k q)) a0 a1 a2 a3 a4 b0 b1 b2 b3 b4 c0 c1 c2 c3 c4 t1 t2 t3 t4 t5 t6 t7 t8 t9 t10 t11 t12 t13 t14 t15 t16 t17 t18 t19 t20 t21 t22 t23 t24 t25 t26 t27 t28 t29 t30 t31 t32 t33 t34 t35 t36 t37 t38 t39 t40 t41 t42 t43 t44 t45 t46 t47 t48 t49 t50 t51 t52 t53 t54 t55 t56 t57 t58 t59 t60 t61 t62 t63 t64 t65 t66 t67 t68 t69 t70 t71 t72 t73 t74 t75 t76 t77 t78 t79 t80 t81 t82 t83 = some (k (inv_remainder.c0 (false, 0, 0, 0, 0, false, 0, 0, 0, 0) id a0 a1 a2 a3 a4 b0 b1 b2 b3 b4 c0 c1 c2 c3 c4 t1 t2 t3 t4 t5 t6 t7 t8 t9 t10 t11 t12 t13 t14 t15 t16 t17 t18 t19 t20 t21 t22 t23 t24 t25 t26 t27 t28 t29 t30 t31 t32 t33 t34 t35 t36 t37 t38 t39 t40 t41 t42 t43 t44 t45 t46 t47 t48 t49 t50 t51 t52 t53 t54 t55 t56 t57 t58 t59 t60 t61 t62 t63 t64 t65 t66 t67 t68 t69 t70 t71 t72 t73 t74 t75 t76 t77 t78 t79 t80 t81 t82 t83)) := by
  unfold inv_remainder.c0; (repeat' (first | (apply pn k) | (exact pn_none _ _) | (exact pn_leaf k _)))
theorem inv_remainder.p {γ : Type} (k : N10 → γ) (a0 : Bool) (a1 a2 a3 a4 : Int) (b0 : Bool) (b1 b2 b3 b4 : Int) (c0 : Bool) (c1 c2 c3 c4 : Int) (h : inv_remainder.ok a0 a1 a2 a3 a4 b0 b1 b2 b3 b4 c0 c1 c2 c3 c4 = true) : inv_remainder.c none (fun q => some (k q)) a0 a1 a2 a3 a4 b0 b1 b2 b3 b4 c0 c1 c2 c3 c4 = some (k (inv_remainder a0 a1 a2 a3 a4 b0 b1 b2 b3 b4 c0 c1 c2 c3 c4)) := by
  revert h; unfold inv_remainder.ok inv_remainder inv_remainder.c; apply inv_remainder.p0
theorem inv_remainder.r (a0 : Bool) (a1 a2 a3 a4 : Int) (b0 : Bool) (b1 b2 b3 b4 : Int) (c0 : Bool) (c1 c2 c3 c4 : Int) : runF P G (tab L_inv_quotient) { merge := true, glue := true } 60 Tryz.f180 [wN a0 a1 a2 a3 a4, wN b0 b1 b2 b3 b4, wN c0 c1 c2 c3 c4] = inv_remainder.c none (fun q => some (v12 q)) a0 a1 a2 a3 a4 b0 b1 b2 b3 b4 c0 c1 c2 c3 c4 := by kernel_rfl
theorem inv_remainder.t : TabOK P G (tab L_inv_remainder) :=
  TabOK_mkL C inv_quotient.t Tryz.func180 (by kernel_rfl) { merge := true, glue := true } (fun c _ => LoopsOK_nil c) 60 (by
    rintro ⟨⟨a0, a1, a2, a3, a4, ⟨⟩⟩, ⟨b0, b1, b2, b3, b4, ⟨⟩⟩, ⟨c0, c1, c2, c3, c4, ⟨⟩⟩, ⟨⟩⟩ h
    exact (inv_remainder.r a0 a1 a2 a3 a4 b0 b1 b2 b3 b4 c0 c1 c2 c3 c4).trans (inv_remainder.p v12 a0 a1 a2 a3 a4 b0 b1 b2 b3 b4 c0 c1 c2 c3 c4 h))
def inv_negated.c0 {γ : Type} (n : γ) (k : N10 → γ) (a0 : Bool) (a1 a2 a3 a4 : Int) (b0 : Bool) (b1 b2 b3 b4 : Int) (c0 : Bool) (c1 c2 c3 c4 : Int) (t1 : Bool) (t2 : N5) (t3 : Bool) (t4 : N5) : γ := bif t1
then bif t3
then k (t4.1, t4.2.1, t4.2.2.1, t4.2.2.2.1, t4.2.2.2.2, num_Top.1, num_Top.2.1, num_Top.2.2.1, num_Top.2.2.2.1, num_Top.2.2.2.2)
else n
else n
def inv_negated.c {γ : Type} (n : γ) (k : N10 → γ) (a0 : Bool) (a1 a2 a3 a4 : Int) (b0 : Bool) (b1 b2 b3 b4 : Int) (c0 : Bool) (c1 c2 c3 c4 : Int) : γ := let t1 := inv_does.ok 1 c0 c1 c2 c3 c4 c0 c1 c2 c3 c4; let t2 := inv_does 1 c0 c1 c2 c3 c4 c0 c1 c2 c3 c4; let t3 := num_Meet.ok a0 a1 a2 a3 a4 t2.1 t2.2.1 t2.2.2.1 t2.2.2.2.1 t2.2.2.2.2; let t4 := num_Meet a0 a1 a2 a3 a4 t2.1 t2.2.1 t2.2.2.1 t2.2.2.2.1 t2.2.2.2.2; inv_negated.c0 n k a0 a1 a2 a3 a4 b0 b1 b2 b3 b4 c0 c1 c2 c3 c4 t1 t2 t3 t4
def inv_negated.ok (a0 : Bool) (a1 a2 a3 a4 : Int) (b0 : Bool) (b1 b2 b3 b4 : Int) (c0 : Bool) (c1 c2 c3 c4 : Int) : Bool := inv_negated.c false (fun _ => true) a0 a1 a2 a3 a4 b0 b1 b2 b3 b4 c0 c1 c2 c3 c4
def inv_negated (a0 : Bool) (a1 a2 a3 a4 : Int) (b0 : Bool) (b1 b2 b3 b4 : Int) (c0 : Bool) (c1 c2 c3 c4 : Int) : N10 := inv_negated.c (false, 0, 0, 0, 0, false, 0, 0, 0, 0) id a0 a1 a2 a3 a4 b0 b1 b2 b3 b4 c0 c1 c2 c3 c4
def inv_negated.F : FV := mkF (cP cN (cP cN (cP cN cU))) (fun | ((a0, a1, a2, a3, a4, ()), (b0, b1, b2, b3, b4, ()), (c0, c1, c2, c3, c4, ()), ()) => inv_negated.ok a0 a1 a2 a3 a4 b0 b1 b2 b3 b4 c0 c1 c2 c3 c4) (fun | ((a0, a1, a2, a3, a4, ()), (b0, b1, b2, b3, b4, ()), (c0, c1, c2, c3, c4, ()), ()) => v12 (inv_negated a0 a1 a2 a3 a4 b0 b1 b2 b3 b4 c0 c1 c2 c3 c4))
def L_inv_negated : TL := (170, inv_negated.F) :: L_inv_remainder
theorem inv_negated.p0 {γ : Type} (k : N10 → γ) (a0 a1 a2 a3 a4 b0 b1 b2 b3 b4 c0 c1 c2 c3 c4 t1 t2 t3 t4) : inv_negated.c0 false (fun _ => true) a0 a1 a2 a3 a4 b0 b1 b2 b3 b4 c0 c1 c2 c3 c4 t1 t2 t3 t4 = true → inv_negated.c0 none (fun q => some (k q)) a0 a1 a2 a3 a4 b0 b1 b2 b3 b4 c0 c1 c2 c3 c4 t1 t2 t3 t4 = some (k (inv_negated.c0 (false, 0, 0, 0, 0, false, 0, 0, 0, 0) id a0 a1 a2 a3 a4 b0 b1 b2 b3 b4 c0 c1 c2 c3 c4 t1 t2 t3 t4)) := by
  unfold inv_negated.c0; (repeat' (first | (apply pn k) | (exact pn_none _ _) | (exact pn_leaf k _)))
theorem inv_negated.p {γ : Type} (k : N10 → γ) (a0 : Bool) (a1 a2 a3 a4 : Int) (b0 : Bool) (b1 b2 b3 b4 : Int) (c0 : Bool) (c1 c2 c3 c4 : Int) (h : inv_negated.ok a0 a1 a2 a3 a4 b0 b1 b2 b3 b4 c0 c1 c2 c3 c4 = true) : inv_negated.c none (fun q => some (k q)) a0 a1 a2 a3 a4 b0 b1 b2 b3 b4 c0 c1 c2 c3 c4 = some (k (inv_negated a0 a1 a2 a3 a4 b0 b1 b2 b3 b4 c0 c1 c2 c3 c4)) := by
  revert h; unfold inv_negated.ok inv_negated inv_negated.c; apply inv_negated.p0
theorem inv_negated.r (a0 : Bool) (a1 a2 a3 a4 : Int) (b0 : Bool) (b1 b2 b3 b4 : Int) (c0 : Bool) (c1 c2 c3 c4 : Int) : runF P G (tab L_inv_remainder) { merge := true, glue := true } 60 Tryz.f170 [wN a0 a1 a2 a3 a4, wN b0 b1 b2 b3 b4, wN c0 c1 c2 c3 c4] = inv_negated.c none (fun q => some (v12 q)) a0 a1 a2 a3 a4 b0 b1 b2 b3 b4 c0 c1 c2 c3 c4 := by kernel_rfl
theorem inv_negated.t : TabOK P G (tab L_inv_negated) :=
  TabOK_mkL C inv_remainder.t Tryz.func170 (by kernel_rfl) { merge := true, glue := true } (fun c _ => LoopsOK_nil c) 60 (by
    rintro ⟨⟨a0, a1, a2, a3, a4, ⟨⟩⟩, ⟨b0, b1, b2, b3, b4, ⟨⟩⟩, ⟨c0, c1, c2, c3, c4, ⟨⟩⟩, ⟨⟩⟩ h
    exact (inv_negated.r a0 a1 a2 a3 a4 b0 b1 b2 b3 b4 c0 c1 c2 c3 c4).trans (inv_negated.p v12 a0 a1 a2 a3 a4 b0 b1 b2 b3 b4 c0 c1 c2 c3 c4 h))
def inv_added.c0 {γ : Type} (n : γ) (k : N10 → γ) (a0 : Bool) (a1 a2 a3 a4 : Int) (b0 : Bool) (b1 b2 b3 b4 : Int) (c0 : Bool) (c1 c2 c3 c4 : Int) (t1 : Bool) (t2 : N5) (t3 t4 : Bool) (t5 : N5) (t6 : Bool) (t7 t8 : N5) : γ := bif t1
then bif t3
then bif t4
then bif t6
then k (t7.1, t7.2.1, t7.2.2.1, t7.2.2.2.1, t7.2.2.2.2, t8.1, t8.2.1, t8.2.2.1, t8.2.2.2.1, t8.2.2.2.2)
else n
else n
else n
else n
def inv_added.c {γ : Type} (n : γ) (k : N10 → γ) (a0 : Bool) (a1 a2 a3 a4 : Int) (b0 : Bool) (b1 b2 b3 b4 : Int) (c0 : Bool) (c1 c2 c3 c4 : Int) : γ := let t1 := inv_does.ok 4 c0 c1 c2 c3 c4 b0 b1 b2 b3 b4; let t2 := inv_does 4 c0 c1 c2 c3 c4 b0 b1 b2 b3 b4; let t3 := num_Meet.ok a0 a1 a2 a3 a4 t2.1 t2.2.1 t2.2.2.1 t2.2.2.2.1 t2.2.2.2.2; let t4 := inv_does.ok 4 c0 c1 c2 c3 c4 a0 a1 a2 a3 a4; let t5 := inv_does 4 c0 c1 c2 c3 c4 a0 a1 a2 a3 a4; let t6 := num_Meet.ok b0 b1 b2 b3 b4 t5.1 t5.2.1 t5.2.2.1 t5.2.2.2.1 t5.2.2.2.2; let t7 := num_Meet a0 a1 a2 a3 a4 t2.1 t2.2.1 t2.2.2.1 t2.2.2.2.1 t2.2.2.2.2; let t8 := num_Meet b0 b1 b2 b3 b4 t5.1 t5.2.1 t5.2.2.1 t5.2.2.2.1 t5.2.2.2.2; inv_added.c0 n k a0 a1 a2 a3 a4 b0 b1 b2 b3 b4 c0 c1 c2 c3 c4 t1 t2 t3 t4 t5 t6 t7 t8
def inv_added.ok (a0 : Bool) (a1 a2 a3 a4 : Int) (b0 : Bool) (b1 b2 b3 b4 : Int) (c0 : Bool) (c1 c2 c3 c4 : Int) : Bool := inv_added.c false (fun _ => true) a0 a1 a2 a3 a4 b0 b1 b2 b3 b4 c0 c1 c2 c3 c4
def inv_added (a0 : Bool) (a1 a2 a3 a4 : Int) (b0 : Bool) (b1 b2 b3 b4 : Int) (c0 : Bool) (c1 c2 c3 c4 : Int) : N10 := inv_added.c (false, 0, 0, 0, 0, false, 0, 0, 0, 0) id a0 a1 a2 a3 a4 b0 b1 b2 b3 b4 c0 c1 c2 c3 c4
def inv_added.F : FV := mkF (cP cN (cP cN (cP cN cU))) (fun | ((a0, a1, a2, a3, a4, ()), (b0, b1, b2, b3, b4, ()), (c0, c1, c2, c3, c4, ()), ()) => inv_added.ok a0 a1 a2 a3 a4 b0 b1 b2 b3 b4 c0 c1 c2 c3 c4) (fun | ((a0, a1, a2, a3, a4, ()), (b0, b1, b2, b3, b4, ()), (c0, c1, c2, c3, c4, ()), ()) => v12 (inv_added a0 a1 a2 a3 a4 b0 b1 b2 b3 b4 c0 c1 c2 c3 c4))
def L_inv_added : TL := (172, inv_added.F) :: L_inv_negated
theorem inv_added.p0 {γ : Type} (k : N10 → γ) (a0 a1 a2 a3 a4 b0 b1 b2 b3 b4 c0 c1 c2 c3 c4 t1 t2 t3 t4 t5 t6 t7 t8) : inv_added.c0 false (fun _ => true) a0 a1 a2 a3 a4 b0 b1 b2 b3 b4 c0 c1 c2 c3 c4 t1 t2 t3 t4 t5 t6 t7 t8 = true → inv_added.c0 none (fun q => some (k q)) a0 a1 a2 a3 a4 b0 b1 b2 b3 b4 c0 c1 c2 c3 c4 t1 t2 t3 t4 t5 t6 t7 t8 = some (k (inv_added.c0 (false, 0, 0, 0, 0, false, 0, 0, 0, 0) id a0 a1 a2 a3 a4 b0 b1 b2 b3 b4 c0 c1 c2 c3 c4 t1 t2 t3 t4 t5 t6 t7 t8)) := by
  unfold inv_added.c0; (repeat' (first | (apply pn k) | (exact pn_none _ _) | (exact pn_leaf k _)))
theorem inv_added.p {γ : Type} (k : N10 → γ) (a0 : Bool) (a1 a2 a3 a4 : Int) (b0 : Bool) (b1 b2 b3 b4 : Int) (c0 : Bool) (c1 c2 c3 c4 : Int) (h : inv_added.ok a0 a1 a2 a3 a4 b0 b1 b2 b3 b4 c0 c1 c2 c3 c4 = true) : inv_added.c none (fun q => some (k q)) a0 a1 a2 a3 a4 b0 b1 b2 b3 b4 c0 c1 c2 c3 c4 = some (k (inv_added a0 a1 a2 a3 a4 b0 b1 b2 b3 b4 c0 c1 c2 c3 c4)) := by
  revert h; unfold inv_added.ok inv_added inv_added.c; apply inv_added.p0
theorem inv_added.r (a0 : Bool) (a1 a2 a3 a4 : Int) (b0 : Bool) (b1 b2 b3 b4 : Int) (c0 : Bool) (c1 c2 c3 c4 : Int) : runF P G (tab L_inv_negated) { merge := true, glue := true } 60 Tryz.f172 [wN a0 a1 a2 a3 a4, wN b0 b1 b2 b3 b4, wN c0 c1 c2 c3 c4] = inv_added.c none (fun q => some (v12 q)) a0 a1 a2 a3 a4 b0 b1 b2 b3 b4 c0 c1 c2 c3 c4 := by kernel_rfl
theorem inv_added.t : TabOK P G (tab L_inv_added) :=
  TabOK_mkL C inv_negated.t Tryz.func172 (by kernel_rfl) { merge := true, glue := true } (fun c _ => LoopsOK_nil c) 60 (by
    rintro ⟨⟨a0, a1, a2, a3, a4, ⟨⟩⟩, ⟨b0, b1, b2, b3, b4, ⟨⟩⟩, ⟨c0, c1, c2, c3, c4, ⟨⟩⟩, ⟨⟩⟩ h
    exact (inv_added.r a0 a1 a2 a3 a4 b0 b1 b2 b3 b4 c0 c1 c2 c3 c4).trans (inv_added.p v12 a0 a1 a2 a3 a4 b0 b1 b2 b3 b4 c0 c1 c2 c3 c4 h))
def inv_less.c0 {γ : Type} (n : γ) (k : N10 → γ) (a0 : Bool) (a1 a2 a3 a4 : Int) (b0 : Bool) (b1 b2 b3 b4 : Int) (c0 : Bool) (c1 c2 c3 c4 : Int) (t1 : Bool) (t2 : N5) (t3 t4 : Bool) (t5 : N5) (t6 : Bool) (t7 t8 : N5) : γ := bif t1
then bif t3
then bif t4
then bif t6
then k (t7.1, t7.2.1, t7.2.2.1, t7.2.2.2.1, t7.2.2.2.2, t8.1, t8.2.1, t8.2.2.1, t8.2.2.2.1, t8.2.2.2.2)
else n
else n
else n
else n
def inv_less.c {γ : Type} (n : γ) (k : N10 → γ) (a0 : Bool) (a1 a2 a3 a4 : Int) (b0 : Bool) (b1 b2 b3 b4 : Int) (c0 : Bool) (c1 c2 c3 c4 : Int) : γ := let t1 := inv_does.ok 3 c0 c1 c2 c3 c4 b0 b1 b2 b3 b4; let t2 := inv_does 3 c0 c1 c2 c3 c4 b0 b1 b2 b3 b4; let t3 := num_Meet.ok a0 a1 a2 a3 a4 t2.1 t2.2.1 t2.2.2.1 t2.2.2.2.1 t2.2.2.2.2; let t4 := inv_does.ok 4 a0 a1 a2 a3 a4 c0 c1 c2 c3 c4; let t5 := inv_does 4 a0 a1 a2 a3 a4 c0 c1 c2 c3 c4; let t6 := num_Meet.ok b0 b1 b2 b3 b4 t5.1 t5.2.1 t5.2.2.1 t5.2.2.2.1 t5.2.2.2.2; let t7 := num_Meet a0 a1 a2 a3 a4 t2.1 t2.2.1 t2.2.2.1 t2.2.2.2.1 t2.2.2.2.2; let t8 := num_Meet b0 b1 b2 b3 b4 t5.1 t5.2.1 t5.2.2.1 t5.2.2.2.1 t5.2.2.2.2; inv_less.c0 n k a0 a1 a2 a3 a4 b0 b1 b2 b3 b4 c0 c1 c2 c3 c4 t1 t2 t3 t4 t5 t6 t7 t8
def inv_less.ok (a0 : Bool) (a1 a2 a3 a4 : Int) (b0 : Bool) (b1 b2 b3 b4 : Int) (c0 : Bool) (c1 c2 c3 c4 : Int) : Bool := inv_less.c false (fun _ => true) a0 a1 a2 a3 a4 b0 b1 b2 b3 b4 c0 c1 c2 c3 c4
def inv_less (a0 : Bool) (a1 a2 a3 a4 : Int) (b0 : Bool) (b1 b2 b3 b4 : Int) (c0 : Bool) (c1 c2 c3 c4 : Int) : N10 := inv_less.c (false, 0, 0, 0, 0, false, 0, 0, 0, 0) id a0 a1 a2 a3 a4 b0 b1 b2 b3 b4 c0 c1 c2 c3 c4
def inv_less.F : FV := mkF (cP cN (cP cN (cP cN cU))) (fun | ((a0, a1, a2, a3, a4, ()), (b0, b1, b2, b3, b4, ()), (c0, c1, c2, c3, c4, ()), ()) => inv_less.ok a0 a1 a2 a3 a4 b0 b1 b2 b3 b4 c0 c1 c2 c3 c4) (fun | ((a0, a1, a2, a3, a4, ()), (b0, b1, b2, b3, b4, ()), (c0, c1, c2, c3, c4, ()), ()) => v12 (inv_less a0 a1 a2 a3 a4 b0 b1 b2 b3 b4 c0 c1 c2 c3 c4))
def L_inv_less : TL := (174, inv_less.F) :: L_inv_added
theorem inv_less.p0 {γ : Type} (k : N10 → γ) (a0 a1 a2 a3 a4 b0 b1 b2 b3 b4 c0 c1 c2 c3 c4 t1 t2 t3 t4 t5 t6 t7 t8) : inv_less.c0 false (fun _ => true) a0 a1 a2 a3 a4 b0 b1 b2 b3 b4 c0 c1 c2 c3 c4 t1 t2 t3 t4 t5 t6 t7 t8 = true → inv_less.c0 none (fun q => some (k q)) a0 a1 a2 a3 a4 b0 b1 b2 b3 b4 c0 c1 c2 c3 c4 t1 t2 t3 t4 t5 t6 t7 t8 = some (k (inv_less.c0 (false, 0, 0, 0, 0, false, 0, 0, 0, 0) id a0 a1 a2 a3 a4 b0 b1 b2 b3 b4 c0 c1 c2 c3 c4 t1 t2 t3 t4 t5 t6 t7 t8)) := by
  unfold inv_less.c0; (repeat' (first | (apply pn k) | (exact pn_none _ _) | (exact pn_leaf k _)))
theorem inv_less.p {γ : Type} (k : N10 → γ) (a0 : Bool) (a1 a2 a3 a4 : Int) (b0 : Bool) (b1 b2 b3 b4 : Int) (c0 : Bool) (c1 c2 c3 c4 : Int) (h : inv_less.ok a0 a1 a2 a3 a4 b0 b1 b2 b3 b4 c0 c1 c2 c3 c4 = true) : inv_less.c none (fun q => some (k q)) a0 a1 a2 a3 a4 b0 b1 b2 b3 b4 c0 c1 c2 c3 c4 = some (k (inv_less a0 a1 a2 a3 a4 b0 b1 b2 b3 b4 c0 c1 c2 c3 c4)) := by
  revert h; unfold inv_less.ok inv_less inv_less.c; apply inv_less.p0
theorem inv_less.r (a0 : Bool) (a1 a2 a3 a4 : Int) (b0 : Bool) (b1 b2 b3 b4 : Int) (c0 : Bool) (c1 c2 c3 c4 : Int) : runF P G (tab L_inv_added) { merge := true, glue := true } 60 Tryz.f174 [wN a0 a1 a2 a3 a4, wN b0 b1 b2 b3 b4, wN c0 c1 c2 c3 c4] = inv_less.c none (fun q => some (v12 q)) a0 a1 a2 a3 a4 b0 b1 b2 b3 b4 c0 c1 c2 c3 c4 := by kernel_rfl
theorem inv_less.t : TabOK P G (tab L_inv_less) :=
  TabOK_mkL C inv_added.t Tryz.func174 (by kernel_rfl) { merge := true, glue := true } (fun c _ => LoopsOK_nil c) 60 (by
    rintro ⟨⟨a0, a1, a2, a3, a4, ⟨⟩⟩, ⟨b0, b1, b2, b3, b4, ⟨⟩⟩, ⟨c0, c1, c2, c3, c4, ⟨⟩⟩, ⟨⟩⟩ h
    exact (inv_less.r a0 a1 a2 a3 a4 b0 b1 b2 b3 b4 c0 c1 c2 c3 c4).trans (inv_less.p v12 a0 a1 a2 a3 a4 b0 b1 b2 b3 b4 c0 c1 c2 c3 c4 h))
def inv_factors.c0 {γ : Type} (n : γ) (k : N10 → γ) (a0 : Bool) (a1 a2 a3 a4 : Int) (b0 : Bool) (b1 b2 b3 b4 : Int) (c0 : Bool) (c1 c2 c3 c4 : Int) (t1 : Bool) (t2 t3 : N5) (t4 t5 t6 : Bool) (t7 t8 : N5) (t9 t10 t11 : Bool) (t12 t13 : N5) : γ := bif !t1
then bif t4
then k (t2.1, t2.2.1, t2.2.2.1, t2.2.2.2.1, t2.2.2.2.2, t3.1, t3.2.1, t3.2.2.1, t3.2.2.2.1, t3.2.2.2.2)
else bif t5
then bif t6
then k (t7.1, t7.2.1, t7.2.2.1, t7.2.2.2.1, t7.2.2.2.2, t8.1, t8.2.1, t8.2.2.1, t8.2.2.2.1, t8.2.2.2.2)
else n
else n
else bif t9
then k (a0, a1, a2, a3, a4, b0, b1, b2, b3, b4)
else bif t10
then bif t11
then k (t12.1, t12.2.1, t12.2.2.1, t12.2.2.2.1, t12.2.2.2.2, t13.1, t13.2.1, t13.2.2.1, t13.2.2.2.1, t13.2.2.2.2)
else n
else n
def inv_factors.c {γ : Type} (n : γ) (k : N10 → γ) (a0 : Bool) (a1 a2 a3 a4 : Int) (b0 : Bool) (b1 b2 b3 b4 : Int) (c0 : Bool) (c1 c2 c3 c4 : Int) : γ := let t1 := num_Has c0 c1 c2 c3 c4 0; let t2 := num_NonZero a0 a1 a2 a3 a4; let t3 := num_NonZero b0 b1 b2 b3 b4; let t4 := bif t2.1 then true else t3.1; let t5 := inv_factor.ok t2.1 t2.2.1 t2.2.2.1 t2.2.2.2.1 t2.2.2.2.2 t3.1 t3.2.1 t3.2.2.1 t3.2.2.2.1 t3.2.2.2.2 c0 c1 c2 c3 c4; let t6 := inv_factor.ok t3.1 t3.2.1 t3.2.2.1 t3.2.2.2.1 t3.2.2.2.2 t2.1 t2.2.1 t2.2.2.1 t2.2.2.2.1 t2.2.2.2.2 c0 c1 c2 c3 c4; let t7 := inv_factor t2.1 t2.2.1 t2.2.2.1 t2.2.2.2.1 t2.2.2.2.2 t3.1 t3.2.1 t3.2.2.1 t3.2.2.2.1 t3.2.2.2.2 c0 c1 c2 c3 c4; let t8 := inv_factor t3.1 t3.2.1 t3.2.2.1 t3.2.2.2.1 t3.2.2.2.2 t2.1 t2.2.1 t2.2.2.1 t2.2.2.2.1 t2.2.2.2.2 c0 c1 c2 c3 c4; let t9 := bif a0 then true else b0; let t10 := inv_factor.ok a0 a1 a2 a3 a4 b0 b1 b2 b3 b4 c0 c1 c2 c3 c4; let t11 := inv_factor.ok b0 b1 b2 b3 b4 a0 a1 a2 a3 a4 c0 c1 c2 c3 c4; let t12 := inv_factor a0 a1 a2 a3 a4 b0 b1 b2 b3 b4 c0 c1 c2 c3 c4; let t13 := inv_factor b0 b1 b2 b3 b4 a0 a1 a2 a3 a4 c0 c1 c2 c3 c4; inv_factors.c0 n k a0 a1 a2 a3 a4 b0 b1 b2 b3 b4 c0 c1 c2 c3 c4 t1 t2 t3 t4 t5 t6 t7 t8 t9 t10 t11 t12 t13
def inv_factors.ok (a0 : Bool) (a1 a2 a3 a4 : Int) (b0 : Bool) (b1 b2 b3 b4 : Int) (c0 : Bool) (c1 c2 c3 c4 : Int) : Bool := inv_factors.c false (fun _ => true) a0 a1 a2 a3 a4 b0 b1 b2 b3 b4 c0 c1 c2 c3 c4
def inv_factors (a0 : Bool) (a1 a2 a3 a4 : Int) (b0 : Bool) (b1 b2 b3 b4 : Int) (c0 : Bool) (c1 c2 c3 c4 : Int) : N10 := inv_factors.c (false, 0, 0, 0, 0, false, 0, 0, 0, 0) id a0 a1 a2 a3 a4 b0 b1 b2 b3 b4 c0 c1 c2 c3 c4
def inv_factors.F : FV := mkF (cP cN (cP cN (cP cN cU))) (fun | ((a0, a1, a2, a3, a4, ()), (b0, b1, b2, b3, b4, ()), (c0, c1, c2, c3, c4, ()), ()) => inv_factors.ok a0 a1 a2 a3 a4 b0 b1 b2 b3 b4 c0 c1 c2 c3 c4) (fun | ((a0, a1, a2, a3, a4, ()), (b0, b1, b2, b3, b4, ()), (c0, c1, c2, c3, c4, ()), ()) => v12 (inv_factors a0 a1 a2 a3 a4 b0 b1 b2 b3 b4 c0 c1 c2 c3 c4))
def L_inv_factors : TL := (176, inv_factors.F) :: L_inv_less
theorem inv_factors.p0 {γ : Type} (k : N10 → γ) (a0 a1 a2 a3 a4 b0 b1 b2 b3 b4 c0 c1 c2 c3 c4 t1 t2 t3 t4 t5 t6 t7 t8 t9 t10 t11 t12 t13) : inv_factors.c0 false (fun _ => true) a0 a1 a2 a3 a4 b0 b1 b2 b3 b4 c0 c1 c2 c3 c4 t1 t2 t3 t4 t5 t6 t7 t8 t9 t10 t11 t12 t13 = true → inv_factors.c0 none (fun q => some (k q)) a0 a1 a2 a3 a4 b0 b1 b2 b3 b4 c0 c1 c2 c3 c4 t1 t2 t3 t4 t5 t6 t7 t8 t9 t10 t11 t12 t13 = some (k (inv_factors.c0 (false, 0, 0, 0, 0, false, 0, 0, 0, 0) id a0 a1 a2 a3 a4 b0 b1 b2 b3 b4 c0 c1 c2 c3 c4 t1 t2 t3 t4 t5 t6 t7 t8 t9 t10 t11 t12 t13)) := by
  unfold inv_factors.c0; (repeat' (first | (apply pn k) | (exact pn_none _ _) | (exact pn_leaf k _)))
theorem inv_factors.p {γ : Type} (k : N10 → γ) (a0 : Bool) (a1 a2 a3 a4 : Int) (b0 : Bool) (b1 b2 b3 b4 : Int) (c0 : Bool) (c1 c2 c3 c4 : Int) (h : inv_factors.ok a0 a1 a2 a3 a4 b0 b1 b2 b3 b4 c0 c1 c2 c3 c4 = true) : inv_factors.c none (fun q => some (k q)) a0 a1 a2 a3 a4 b0 b1 b2 b3 b4 c0 c1 c2 c3 c4 = some (k (inv_factors a0 a1 a2 a3 a4 b0 b1 b2 b3 b4 c0 c1 c2 c3 c4)) := by
  revert h; unfold inv_factors.ok inv_factors inv_factors.c; apply inv_factors.p0
theorem inv_factors.r (a0 : Bool) (a1 a2 a3 a4 : Int) (b0 : Bool) (b1 b2 b3 b4 : Int) (c0 : Bool) (c1 c2 c3 c4 : Int) : runF P G (tab L_inv_less) { merge := true, glue := true } 60 Tryz.f176 [wN a0 a1 a2 a3 a4, wN b0 b1 b2 b3 b4, wN c0 c1 c2 c3 c4] = inv_factors.c none (fun q => some (v12 q)) a0 a1 a2 a3 a4 b0 b1 b2 b3 b4 c0 c1 c2 c3 c4 := by kernel_rfl
theorem inv_factors.t : TabOK P G (tab L_inv_factors) :=
  TabOK_mkL C inv_less.t Tryz.func176 (by kernel_rfl) { merge := true, glue := true } (fun c _ => LoopsOK_nil c) 60 (by
    rintro ⟨⟨a0, a1, a2, a3, a4, ⟨⟩⟩, ⟨b0, b1, b2, b3, b4, ⟨⟩⟩, ⟨c0, c1, c2, c3, c4, ⟨⟩⟩, ⟨⟩⟩ h
    exact (inv_factors.r a0 a1 a2 a3 a4 b0 b1 b2 b3 b4 c0 c1 c2 c3 c4).trans (inv_factors.p v12 a0 a1 a2 a3 a4 b0 b1 b2 b3 b4 c0 c1 c2 c3 c4 h))
def inv_Solve.c0 {γ : Type} (n : γ) (k : N11 → γ) (a : Int) (b0 : Bool) (b1 b2 b3 b4 : Int) (c0 : Bool) (c1 c2 c3 c4 : Int) (d0 : Bool) (d1 d2 d3 d4 : Int) (t1 t2 : N5) (t3 : Bool) (t4 : N5) (t5 t6 t7 : Bool) (t8 t9 : N10) (t10 : Bool) (t11 t12 : N10) (t13 : Bool) (t14 t15 : N10) (t16 : Bool) (t17 t18 : N10) (t19 : Bool) (t20 t21 : N10) (t22 : Bool) (t23 t24 : N10) : γ := bif a == 1
then bif t6
then k (num_Bot.1, num_Bot.2.1, num_Bot.2.2.1, num_Bot.2.2.2.1, num_Bot.2.2.2.2, num_Bot.1, num_Bot.2.1, num_Bot.2.2.1, num_Bot.2.2.2.1, num_Bot.2.2.2.2, 0)
else bif t7
then k (t9.1, t9.2.1, t9.2.2.1, t9.2.2.2.1, t9.2.2.2.2.1, t9.2.2.2.2.2.1, t9.2.2.2.2.2.2.1, t9.2.2.2.2.2.2.2.1, t9.2.2.2.2.2.2.2.2.1, t9.2.2.2.2.2.2.2.2.2, 0)
else n
else bif a == 3
then bif t6
then k (num_Bot.1, num_Bot.2.1, num_Bot.2.2.1, num_Bot.2.2.2.1, num_Bot.2.2.2.2, num_Bot.1, num_Bot.2.1, num_Bot.2.2.1, num_Bot.2.2.2.1, num_Bot.2.2.2.2, 0)
else bif t10
then k (t12.1, t12.2.1, t12.2.2.1, t12.2.2.2.1, t12.2.2.2.2.1, t12.2.2.2.2.2.1, t12.2.2.2.2.2.2.1, t12.2.2.2.2.2.2.2.1, t12.2.2.2.2.2.2.2.2.1, t12.2.2.2.2.2.2.2.2.2, 0)
else n
else bif a == 4
then bif t6
then k (num_Bot.1, num_Bot.2.1, num_Bot.2.2.1, num_Bot.2.2.2.1, num_Bot.2.2.2.2, num_Bot.1, num_Bot.2.1, num_Bot.2.2.1, num_Bot.2.2.2.1, num_Bot.2.2.2.2, 0)
else bif t13
then k (t15.1, t15.2.1, t15.2.2.1, t15.2.2.2.1, t15.2.2.2.2.1, t15.2.2.2.2.2.1, t15.2.2.2.2.2.2.1, t15.2.2.2.2.2.2.2.1, t15.2.2.2.2.2.2.2.2.1, t15.2.2.2.2.2.2.2.2.2, 0)
else n
else bif a == 5
then bif t6
then k (num_Bot.1, num_Bot.2.1, num_Bot.2.2.1, num_Bot.2.2.2.1, num_Bot.2.2.2.2, num_Bot.1, num_Bot.2.1, num_Bot.2.2.1, num_Bot.2.2.2.1, num_Bot.2.2.2.2, 0)
else bif t16
then k (t18.1, t18.2.1, t18.2.2.1, t18.2.2.2.1, t18.2.2.2.2.1, t18.2.2.2.2.2.1, t18.2.2.2.2.2.2.1, t18.2.2.2.2.2.2.2.1, t18.2.2.2.2.2.2.2.2.1, t18.2.2.2.2.2.2.2.2.2, 0)
else n
else bif a == 6
then bif t6
then k (num_Bot.1, num_Bot.2.1, num_Bot.2.2.1, num_Bot.2.2.2.1, num_Bot.2.2.2.2, num_Bot.1, num_Bot.2.1, num_Bot.2.2.1, num_Bot.2.2.2.1, num_Bot.2.2.2.2, 0)
else bif t19
then k (t21.1, t21.2.1, t21.2.2.1, t21.2.2.2.1, t21.2.2.2.2.1, t21.2.2.2.2.2.1, t21.2.2.2.2.2.2.1, t21.2.2.2.2.2.2.2.1, t21.2.2.2.2.2.2.2.2.1, t21.2.2.2.2.2.2.2.2.2, 0)
else n
else bif a == 7
then bif t6
then k (num_Bot.1, num_Bot.2.1, num_Bot.2.2.1, num_Bot.2.2.2.1, num_Bot.2.2.2.2, num_Bot.1, num_Bot.2.1, num_Bot.2.2.1, num_Bot.2.2.2.1, num_Bot.2.2.2.2, 0)
else bif t22
then k (t24.1, t24.2.1, t24.2.2.1, t24.2.2.2.1, t24.2.2.2.2.1, t24.2.2.2.2.2.1, t24.2.2.2.2.2.2.1, t24.2.2.2.2.2.2.2.1, t24.2.2.2.2.2.2.2.2.1, t24.2.2.2.2.2.2.2.2.2, 0)
else n
else k (num_Bot.1, num_Bot.2.1, num_Bot.2.2.1, num_Bot.2.2.2.1, num_Bot.2.2.2.2, num_Bot.1, num_Bot.2.1, num_Bot.2.2.1, num_Bot.2.2.2.1, num_Bot.2.2.2.2, 1)
def inv_Solve.c {γ : Type} (n : γ) (k : N11 → γ) (a : Int) (b0 : Bool) (b1 b2 b3 b4 : Int) (c0 : Bool) (c1 c2 c3 c4 : Int) (d0 : Bool) (d1 d2 d3 d4 : Int) : γ := let t1 := num_Norm b0 b1 b2 b3 b4; let t2 := num_Norm d0 d1 d2 d3 d4; let t3 := bif t1.1 then true else t2.1; let t4 := num_Norm c0 c1 c2 c3 c4; let t5 := bif t4.1 then a != 1 else false; let t6 := bif t3 then true else t5; let t7 := inv_negated.ok t1.1 t1.2.1 t1.2.2.1 t1.2.2.2.1 t1.2.2.2.2 t4.1 t4.2.1 t4.2.2.1 t4.2.2.2.1 t4.2.2.2.2 t2.1 t2.2.1 t2.2.2.1 t2.2.2.2.1 t2.2.2.2.2; let t8 := inv_negated t1.1 t1.2.1 t1.2.2.1 t1.2.2.2.1 t1.2.2.2.2 t4.1 t4.2.1 t4.2.2.1 t4.2.2.2.1 t4.2.2.2.2 t2.1 t2.2.1 t2.2.2.1 t2.2.2.2.1 t2.2.2.2.2; let t9 := inv_told t8.1 t8.2.1 t8.2.2.1 t8.2.2.2.1 t8.2.2.2.2.1 t8.2.2.2.2.2.1 t8.2.2.2.2.2.2.1 t8.2.2.2.2.2.2.2.1 t8.2.2.2.2.2.2.2.2.1 t8.2.2.2.2.2.2.2.2.2; let t10 := inv_added.ok t1.1 t1.2.1 t1.2.2.1 t1.2.2.2.1 t1.2.2.2.2 t4.1 t4.2.1 t4.2.2.1 t4.2.2.2.1 t4.2.2.2.2 t2.1 t2.2.1 t2.2.2.1 t2.2.2.2.1 t2.2.2.2.2; let t11 := inv_added t1.1 t1.2.1 t1.2.2.1 t1.2.2.2.1 t1.2.2.2.2 t4.1 t4.2.1 t4.2.2.1 t4.2.2.2.1 t4.2.2.2.2 t2.1 t2.2.1 t2.2.2.1 t2.2.2.2.1 t2.2.2.2.2; let t12 := inv_told t11.1 t11.2.1 t11.2.2.1 t11.2.2.2.1 t11.2.2.2.2.1 t11.2.2.2.2.2.1 t11.2.2.2.2.2.2.1 t11.2.2.2.2.2.2.2.1 t11.2.2.2.2.2.2.2.2.1 t11.2.2.2.2.2.2.2.2.2; let t13 := inv_less.ok t1.1 t1.2.1 t1.2.2.1 t1.2.2.2.1 t1.2.2.2.2 t4.1 t4.2.1 t4.2.2.1 t4.2.2.2.1 t4.2.2.2.2 t2.1 t2.2.1 t2.2.2.1 t2.2.2.2.1 t2.2.2.2.2; let t14 := inv_less t1.1 t1.2.1 t1.2.2.1 t1.2.2.2.1 t1.2.2.2.2 t4.1 t4.2.1 t4.2.2.1 t4.2.2.2.1 t4.2.2.2.2 t2.1 t2.2.1 t2.2.2.1 t2.2.2.2.1 t2.2.2.2.2; let t15 := inv_told t14.1 t14.2.1 t14.2.2.1 t14.2.2.2.1 t14.2.2.2.2.1 t14.2.2.2.2.2.1 t14.2.2.2.2.2.2.1 t14.2.2.2.2.2.2.2.1 t14.2.2.2.2.2.2.2.2.1 t14.2.2.2.2.2.2.2.2.2; let t16 := inv_factors.ok t1.1 t1.2.1 t1.2.2.1 t1.2.2.2.1 t1.2.2.2.2 t4.1 t4.2.1 t4.2.2.1 t4.2.2.2.1 t4.2.2.2.2 t2.1 t2.2.1 t2.2.2.1 t2.2.2.2.1 t2.2.2.2.2; let t17 := inv_factors t1.1 t1.2.1 t1.2.2.1 t1.2.2.2.1 t1.2.2.2.2 t4.1 t4.2.1 t4.2.2.1 t4.2.2.2.1 t4.2.2.2.2 t2.1 t2.2.1 t2.2.2.1 t2.2.2.2.1 t2.2.2.2.2; let t18 := inv_told t17.1 t17.2.1 t17.2.2.1 t17.2.2.2.1 t17.2.2.2.2.1 t17.2.2.2.2.2.1 t17.2.2.2.2.2.2.1 t17.2.2.2.2.2.2.2.1 t17.2.2.2.2.2.2.2.2.1 t17.2.2.2.2.2.2.2.2.2; let t19 := inv_quotient.ok t1.1 t1.2.1 t1.2.2.1 t1.2.2.2.1 t1.2.2.2.2 t4.1 t4.2.1 t4.2.2.1 t4.2.2.2.1 t4.2.2.2.2 t2.1 t2.2.1 t2.2.2.1 t2.2.2.2.1 t2.2.2.2.2; let t20 := inv_quotient t1.1 t1.2.1 t1.2.2.1 t1.2.2.2.1 t1.2.2.2.2 t4.1 t4.2.1 t4.2.2.1 t4.2.2.2.1 t4.2.2.2.2 t2.1 t2.2.1 t2.2.2.1 t2.2.2.2.1 t2.2.2.2.2; let t21 := inv_told t20.1 t20.2.1 t20.2.2.1 t20.2.2.2.1 t20.2.2.2.2.1 t20.2.2.2.2.2.1 t20.2.2.2.2.2.2.1 t20.2.2.2.2.2.2.2.1 t20.2.2.2.2.2.2.2.2.1 t20.2.2.2.2.2.2.2.2.2; let t22 := inv_remainder.ok t1.1 t1.2.1 t1.2.2.1 t1.2.2.2.1 t1.2.2.2.2 t4.1 t4.2.1 t4.2.2.1 t4.2.2.2.1 t4.2.2.2.2 t2.1 t2.2.1 t2.2.2.1 t2.2.2.2.1 t2.2.2.2.2; let t23 := inv_remainder t1.1 t1.2.1 t1.2.2.1 t1.2.2.2.1 t1.2.2.2.2 t4.1 t4.2.1 t4.2.2.1 t4.2.2.2.1 t4.2.2.2.2 t2.1 t2.2.1 t2.2.2.1 t2.2.2.2.1 t2.2.2.2.2; let t24 := inv_told t23.1 t23.2.1 t23.2.2.1 t23.2.2.2.1 t23.2.2.2.2.1 t23.2.2.2.2.2.1 t23.2.2.2.2.2.2.1 t23.2.2.2.2.2.2.2.1 t23.2.2.2.2.2.2.2.2.1 t23.2.2.2.2.2.2.2.2.2; inv_Solve.c0 n k a b0 b1 b2 b3 b4 c0 c1 c2 c3 c4 d0 d1 d2 d3 d4 t1 t2 t3 t4 t5 t6 t7 t8 t9 t10 t11 t12 t13 t14 t15 t16 t17 t18 t19 t20 t21 t22 t23 t24
def inv_Solve.ok (a : Int) (b0 : Bool) (b1 b2 b3 b4 : Int) (c0 : Bool) (c1 c2 c3 c4 : Int) (d0 : Bool) (d1 d2 d3 d4 : Int) : Bool := inv_Solve.c false (fun _ => true) a b0 b1 b2 b3 b4 c0 c1 c2 c3 c4 d0 d1 d2 d3 d4
def inv_Solve (a : Int) (b0 : Bool) (b1 b2 b3 b4 : Int) (c0 : Bool) (c1 c2 c3 c4 : Int) (d0 : Bool) (d1 d2 d3 d4 : Int) : N11 := inv_Solve.c (false, 0, 0, 0, 0, false, 0, 0, 0, 0, 0) id a b0 b1 b2 b3 b4 c0 c1 c2 c3 c4 d0 d1 d2 d3 d4
def v14 (q : N11) : Value := .tuple #[.agg #[.bool q.1, .int .i64 q.2.1, .int .i64 q.2.2.1, .int .u64 q.2.2.2.1, .int .u64 q.2.2.2.2.1], .agg #[.bool q.2.2.2.2.2.1, .int .i64 q.2.2.2.2.2.2.1, .int .i64 q.2.2.2.2.2.2.2.1, .int .u64 q.2.2.2.2.2.2.2.2.1, .int .u64 q.2.2.2.2.2.2.2.2.2.1], .int .i64 q.2.2.2.2.2.2.2.2.2.2]
def inv_Solve.F : FV := mkF (cP (cI .i64) (cP cN (cP cN (cP cN cU)))) (fun | (a, (b0, b1, b2, b3, b4, ()), (c0, c1, c2, c3, c4, ()), (d0, d1, d2, d3, d4, ()), ()) => inv_Solve.ok a b0 b1 b2 b3 b4 c0 c1 c2 c3 c4 d0 d1 d2 d3 d4) (fun | (a, (b0, b1, b2, b3, b4, ()), (c0, c1, c2, c3, c4, ()), (d0, d1, d2, d3, d4, ()), ()) => v14 (inv_Solve a b0 b1 b2 b3 b4 c0 c1 c2 c3 c4 d0 d1 d2 d3 d4))
def L_inv_Solve : TL := (44, inv_Solve.F) :: L_inv_factors
theorem inv_Solve.p0 {γ : Type} (k : N11 → γ) (a b0 b1 b2 b3 b4 c0 c1 c2 c3 c4 d0 d1 d2 d3 d4 t1 t2 t3 t4 t5 t6 t7 t8 t9 t10 t11 t12 t13 t14 t15 t16 t17 t18 t19 t20 t21 t22 t23 t24) : inv_Solve.c0 false (fun _ => true) a b0 b1 b2 b3 b4 c0 c1 c2 c3 c4 d0 d1 d2 d3 d4 t1 t2 t3 t4 t5 t6 t7 t8 t9 t10 t11 t12 t13 t14 t15 t16 t17 t18 t19 t20 t21 t22 t23 t24 = true → inv_Solve.c0 none (fun q => some (k q)) a b0 b1 b2 b3 b4 c0 c1 c2 c3 c4 d0 d1 d2 d3 d4 t1 t2 t3 t4 t5 t6 t7 t8 t9 t10 t11 t12 t13 t14 t15 t16 t17 t18 t19 t20 t21 t22 t23 t24 = some (k (inv_Solve.c0 (false, 0, 0, 0, 0, false, 0, 0, 0, 0, 0) id a b0 b1 b2 b3 b4 c0 c1 c2 c3 c4 d0 d1 d2 d3 d4 t1 t2 t3 t4 t5 t6 t7 t8 t9 t10 t11 t12 t13 t14 t15 t16 t17 t18 t19 t20 t21 t22 t23 t24)) := by
  unfold inv_Solve.c0; (repeat' (first | (apply pn k) | (exact pn_none _ _) | (exact pn_leaf k _)))
theorem inv_Solve.p {γ : Type} (k : N11 → γ) (a : Int) (b0 : Bool) (b1 b2 b3 b4 : Int) (c0 : Bool) (c1 c2 c3 c4 : Int) (d0 : Bool) (d1 d2 d3 d4 : Int) (h : inv_Solve.ok a b0 b1 b2 b3 b4 c0 c1 c2 c3 c4 d0 d1 d2 d3 d4 = true) : inv_Solve.c none (fun q => some (k q)) a b0 b1 b2 b3 b4 c0 c1 c2 c3 c4 d0 d1 d2 d3 d4 = some (k (inv_Solve a b0 b1 b2 b3 b4 c0 c1 c2 c3 c4 d0 d1 d2 d3 d4)) := by
  revert h; unfold inv_Solve.ok inv_Solve inv_Solve.c; apply inv_Solve.p0
theorem inv_Solve.r (a : Int) (b0 : Bool) (b1 b2 b3 b4 : Int) (c0 : Bool) (c1 c2 c3 c4 : Int) (d0 : Bool) (d1 d2 d3 d4 : Int) : runF P G (tab L_inv_factors) { merge := true, glue := true } 60 Tryz.f44 [.int .i64 a, wN b0 b1 b2 b3 b4, wN c0 c1 c2 c3 c4, wN d0 d1 d2 d3 d4] = inv_Solve.c none (fun q => some (v14 q)) a b0 b1 b2 b3 b4 c0 c1 c2 c3 c4 d0 d1 d2 d3 d4 := by kernel_rfl
theorem inv_Solve.t : TabOK P G (tab L_inv_Solve) :=
  TabOK_mkL C inv_factors.t Tryz.func44 (by kernel_rfl) { merge := true, glue := true } (fun c _ => LoopsOK_nil c) 60 (by
    rintro ⟨a, ⟨b0, b1, b2, b3, b4, ⟨⟩⟩, ⟨c0, c1, c2, c3, c4, ⟨⟩⟩, ⟨d0, d1, d2, d3, d4, ⟨⟩⟩, ⟨⟩⟩ h
    exact (inv_Solve.r a b0 b1 b2 b3 b4 c0 c1 c2 c3 c4 d0 d1 d2 d3 d4).trans (inv_Solve.p v14 a b0 b1 b2 b3 b4 c0 c1 c2 c3 c4 d0 d1 d2 d3 d4 h))
def inv_below.c0 {γ : Type} (n : γ) (k : N10 → γ) (a0 : Bool) (a1 a2 a3 a4 : Int) (b0 : Bool) (b1 b2 b3 b4 : Int) (t1 : Bool) (t2 : Int) (t3 : N5) (t4 : Bool) (t5 : Int) (t6 : N5) (t7 : Bool) (t8 t9 : N5) : γ := bif t1
then k (num_Bot.1, num_Bot.2.1, num_Bot.2.2.1, num_Bot.2.2.2.1, num_Bot.2.2.2.2, num_Bot.1, num_Bot.2.1, num_Bot.2.2.1, num_Bot.2.2.2.1, num_Bot.2.2.2.2)
else bif t4
then bif t7
then k (t8.1, t8.2.1, t8.2.2.1, t8.2.2.2.1, t8.2.2.2.2, t9.1, t9.2.1, t9.2.2.1, t9.2.2.2.1, t9.2.2.2.2)
else n
else n
def inv_below.c {γ : Type} (n : γ) (k : N10 → γ) (a0 : Bool) (a1 a2 a3 a4 : Int) (b0 : Bool) (b1 b2 b3 b4 : Int) : γ := let t1 := bif b2 == -9223372036854775808 then true else a1 == 9223372036854775807; let t2 := IntKind.i64.wrap (b2 - 1); let t3 := inv_to t2; let t4 := num_Meet.ok a0 a1 a2 a3 a4 t3.1 t3.2.1 t3.2.2.1 t3.2.2.2.1 t3.2.2.2.2; let t5 := IntKind.i64.wrap (a1 + 1); let t6 := inv_from t5; let t7 := num_Meet.ok b0 b1 b2 b3 b4 t6.1 t6.2.1 t6.2.2.1 t6.2.2.2.1 t6.2.2.2.2; let t8 := num_Meet a0 a1 a2 a3 a4 t3.1 t3.2.1 t3.2.2.1 t3.2.2.2.1 t3.2.2.2.2; let t9 := num_Meet b0 b1 b2 b3 b4 t6.1 t6.2.1 t6.2.2.1 t6.2.2.2.1 t6.2.2.2.2; inv_below.c0 n k a0 a1 a2 a3 a4 b0 b1 b2 b3 b4 t1 t2 t3 t4 t5 t6 t7 t8 t9
def inv_below.ok (a0 : Bool) (a1 a2 a3 a4 : Int) (b0 : Bool) (b1 b2 b3 b4 : Int) : Bool := inv_below.c false (fun _ => true) a0 a1 a2 a3 a4 b0 b1 b2 b3 b4
def inv_below (a0 : Bool) (a1 a2 a3 a4 : Int) (b0 : Bool) (b1 b2 b3 b4 : Int) : N10 := inv_below.c (false, 0, 0, 0, 0, false, 0, 0, 0, 0) id a0 a1 a2 a3 a4 b0 b1 b2 b3 b4
def inv_below.F : FV := mkF (cP cN (cP cN cU)) (fun | ((a0, a1, a2, a3, a4, ()), (b0, b1, b2, b3, b4, ()), ()) => inv_below.ok a0 a1 a2 a3 a4 b0 b1 b2 b3 b4) (fun | ((a0, a1, a2, a3, a4, ()), (b0, b1, b2, b3, b4, ()), ()) => v12 (inv_below a0 a1 a2 a3 a4 b0 b1 b2 b3 b4))
def L_inv_below : TL := (191, inv_below.F) :: L_inv_Solve
theorem inv_below.p0 {γ : Type} (k : N10 → γ) (a0 a1 a2 a3 a4 b0 b1 b2 b3 b4 t1 t2 t3 t4 t5 t6 t7 t8 t9) : inv_below.c0 false (fun _ => true) a0 a1 a2 a3 a4 b0 b1 b2 b3 b4 t1 t2 t3 t4 t5 t6 t7 t8 t9 = true → inv_below.c0 none (fun q => some (k q)) a0 a1 a2 a3 a4 b0 b1 b2 b3 b4 t1 t2 t3 t4 t5 t6 t7 t8 t9 = some (k (inv_below.c0 (false, 0, 0, 0, 0, false, 0, 0, 0, 0) id a0 a1 a2 a3 a4 b0 b1 b2 b3 b4 t1 t2 t3 t4 t5 t6 t7 t8 t9)) := by
  unfold inv_below.c0; (repeat' (first | (apply pn k) | (exact pn_none _ _) | (exact pn_leaf k _)))
theorem inv_below.p {γ : Type} (k : N10 → γ) (a0 : Bool) (a1 a2 a3 a4 : Int) (b0 : Bool) (b1 b2 b3 b4 : Int) (h : inv_below.ok a0 a1 a2 a3 a4 b0 b1 b2 b3 b4 = true) : inv_below.c none (fun q => some (k q)) a0 a1 a2 a3 a4 b0 b1 b2 b3 b4 = some (k (inv_below a0 a1 a2 a3 a4 b0 b1 b2 b3 b4)) := by
  revert h; unfold inv_below.ok inv_below inv_below.c; apply inv_below.p0
theorem inv_below.r (a0 : Bool) (a1 a2 a3 a4 : Int) (b0 : Bool) (b1 b2 b3 b4 : Int) : runF P G (tab L_inv_Solve) { merge := true, glue := true } 60 Tryz.f191 [wN a0 a1 a2 a3 a4, wN b0 b1 b2 b3 b4] = inv_below.c none (fun q => some (v12 q)) a0 a1 a2 a3 a4 b0 b1 b2 b3 b4 := by kernel_rfl
theorem inv_below.t : TabOK P G (tab L_inv_below) :=
  TabOK_mkL C inv_Solve.t Tryz.func191 (by kernel_rfl) { merge := true, glue := true } (fun c _ => LoopsOK_nil c) 60 (by
    rintro ⟨⟨a0, a1, a2, a3, a4, ⟨⟩⟩, ⟨b0, b1, b2, b3, b4, ⟨⟩⟩, ⟨⟩⟩ h
    exact (inv_below.r a0 a1 a2 a3 a4 b0 b1 b2 b3 b4).trans (inv_below.p v12 a0 a1 a2 a3 a4 b0 b1 b2 b3 b4 h))
def inv_upTo.c0 {γ : Type} (n : γ) (k : N10 → γ) (a0 : Bool) (a1 a2 a3 a4 : Int) (b0 : Bool) (b1 b2 b3 b4 : Int) (t1 : N5) (t2 : Bool) (t3 : N5) (t4 : Bool) (t5 t6 : N5) : γ := bif t2
then bif t4
then k (t5.1, t5.2.1, t5.2.2.1, t5.2.2.2.1, t5.2.2.2.2, t6.1, t6.2.1, t6.2.2.1, t6.2.2.2.1, t6.2.2.2.2)
else n
else n
def inv_upTo.c {γ : Type} (n : γ) (k : N10 → γ) (a0 : Bool) (a1 a2 a3 a4 : Int) (b0 : Bool) (b1 b2 b3 b4 : Int) : γ := let t1 := inv_to b2; let t2 := num_Meet.ok a0 a1 a2 a3 a4 t1.1 t1.2.1 t1.2.2.1 t1.2.2.2.1 t1.2.2.2.2; let t3 := inv_from a1; let t4 := num_Meet.ok b0 b1 b2 b3 b4 t3.1 t3.2.1 t3.2.2.1 t3.2.2.2.1 t3.2.2.2.2; let t5 := num_Meet a0 a1 a2 a3 a4 t1.1 t1.2.1 t1.2.2.1 t1.2.2.2.1 t1.2.2.2.2; let t6 := num_Meet b0 b1 b2 b3 b4 t3.1 t3.2.1 t3.2.2.1 t3.2.2.2.1 t3.2.2.2.2; inv_upTo.c0 n k a0 a1 a2 a3 a4 b0 b1 b2 b3 b4 t1 t2 t3 t4 t5 t6
def inv_upTo.ok (a0 : Bool) (a1 a2 a3 a4 : Int) (b0 : Bool) (b1 b2 b3 b4 : Int) : Bool := inv_upTo.c false (fun _ => true) a0 a1 a2 a3 a4 b0 b1 b2 b3 b4
def inv_upTo (a0 : Bool) (a1 a2 a3 a4 : Int) (b0 : Bool) (b1 b2 b3 b4 : Int) : N10 := inv_upTo.c (false, 0, 0, 0, 0, false, 0, 0, 0, 0) id a0 a1 a2 a3 a4 b0 b1 b2 b3 b4
def inv_upTo.F : FV := mkF (cP cN (cP cN cU)) (fun | ((a0, a1, a2, a3, a4, ()), (b0, b1, b2, b3, b4, ()), ()) => inv_upTo.ok a0 a1 a2 a3 a4 b0 b1 b2 b3 b4) (fun | ((a0, a1, a2, a3, a4, ()), (b0, b1, b2, b3, b4, ()), ()) => v12 (inv_upTo a0 a1 a2 a3 a4 b0 b1 b2 b3 b4))
def L_inv_upTo : TL := (192, inv_upTo.F) :: L_inv_below
theorem inv_upTo.p0 {γ : Type} (k : N10 → γ) (a0 a1 a2 a3 a4 b0 b1 b2 b3 b4 t1 t2 t3 t4 t5 t6) : inv_upTo.c0 false (fun _ => true) a0 a1 a2 a3 a4 b0 b1 b2 b3 b4 t1 t2 t3 t4 t5 t6 = true → inv_upTo.c0 none (fun q => some (k q)) a0 a1 a2 a3 a4 b0 b1 b2 b3 b4 t1 t2 t3 t4 t5 t6 = some (k (inv_upTo.c0 (false, 0, 0, 0, 0, false, 0, 0, 0, 0) id a0 a1 a2 a3 a4 b0 b1 b2 b3 b4 t1 t2 t3 t4 t5 t6)) := by
  unfold inv_upTo.c0; (repeat' (first | (apply pn k) | (exact pn_none _ _) | (exact pn_leaf k _)))
theorem inv_upTo.p {γ : Type} (k : N10 → γ) (a0 : Bool) (a1 a2 a3 a4 : Int) (b0 : Bool) (b1 b2 b3 b4 : Int) (h : inv_upTo.ok a0 a1 a2 a3 a4 b0 b1 b2 b3 b4 = true) : inv_upTo.c none (fun q => some (k q)) a0 a1 a2 a3 a4 b0 b1 b2 b3 b4 = some (k (inv_upTo a0 a1 a2 a3 a4 b0 b1 b2 b3 b4)) := by
  revert h; unfold inv_upTo.ok inv_upTo inv_upTo.c; apply inv_upTo.p0
theorem inv_upTo.r (a0 : Bool) (a1 a2 a3 a4 : Int) (b0 : Bool) (b1 b2 b3 b4 : Int) : runF P G (tab L_inv_below) { merge := true, glue := true } 60 Tryz.f192 [wN a0 a1 a2 a3 a4, wN b0 b1 b2 b3 b4] = inv_upTo.c none (fun q => some (v12 q)) a0 a1 a2 a3 a4 b0 b1 b2 b3 b4 := by kernel_rfl
theorem inv_upTo.t : TabOK P G (tab L_inv_upTo) :=
  TabOK_mkL C inv_below.t Tryz.func192 (by kernel_rfl) { merge := true, glue := true } (fun c _ => LoopsOK_nil c) 60 (by
    rintro ⟨⟨a0, a1, a2, a3, a4, ⟨⟩⟩, ⟨b0, b1, b2, b3, b4, ⟨⟩⟩, ⟨⟩⟩ h
    exact (inv_upTo.r a0 a1 a2 a3 a4 b0 b1 b2 b3 b4).trans (inv_upTo.p v12 a0 a1 a2 a3 a4 b0 b1 b2 b3 b4 h))
def inv_without.c0 {γ : Type} (n : γ) (k : N5 → γ) (a0 : Bool) (a1 a2 a3 a4 : Int) (b0 : Bool) (b1 b2 b3 b4 : Int) (t1 : Int × Bool) (t2 : Int) (t3 : N5) (t4 : Bool) (t5 : N5) (t6 : Bool) (t7 : Int) (t8 : N5) (t9 : Bool) (t10 : N5) (t11 t12 : Bool) (t13 : N5) : γ := bif !t1.2
then k (a0, a1, a2, a3, a4)
else bif a1 == t1.1
then bif t1.1 == 9223372036854775807
then k (num_Bot.1, num_Bot.2.1, num_Bot.2.2.1, num_Bot.2.2.2.1, num_Bot.2.2.2.2)
else bif t4
then bif t6
then bif t1.1 == -9223372036854775808
then k (num_Bot.1, num_Bot.2.1, num_Bot.2.2.1, num_Bot.2.2.2.1, num_Bot.2.2.2.2)
else bif t9
then k (t10.1, t10.2.1, t10.2.2.1, t10.2.2.2.1, t10.2.2.2.2)
else n
else k (t5.1, t5.2.1, t5.2.2.1, t5.2.2.2.1, t5.2.2.2.2)
else n
else bif t11
then bif t1.1 == -9223372036854775808
then k (num_Bot.1, num_Bot.2.1, num_Bot.2.2.1, num_Bot.2.2.2.1, num_Bot.2.2.2.2)
else bif t12
then k (t13.1, t13.2.1, t13.2.2.1, t13.2.2.2.1, t13.2.2.2.2)
else n
else k (a0, a1, a2, a3, a4)
def inv_without.c {γ : Type} (n : γ) (k : N5 → γ) (a0 : Bool) (a1 a2 a3 a4 : Int) (b0 : Bool) (b1 b2 b3 b4 : Int) : γ := let t1 := inv_one b0 b1 b2 b3 b4; let t2 := IntKind.i64.wrap (t1.1 + 1); let t3 := inv_from t2; let t4 := num_Meet.ok a0 a1 a2 a3 a4 t3.1 t3.2.1 t3.2.2.1 t3.2.2.2.1 t3.2.2.2.2; let t5 := num_Meet a0 a1 a2 a3 a4 t3.1 t3.2.1 t3.2.2.1 t3.2.2.2.1 t3.2.2.2.2; let t6 := bif !t5.1 then t5.2.2.1 == t1.1 else false; let t7 := IntKind.i64.wrap (t1.1 - 1); let t8 := inv_to t7; let t9 := num_Meet.ok t5.1 t5.2.1 t5.2.2.1 t5.2.2.2.1 t5.2.2.2.2 t8.1 t8.2.1 t8.2.2.1 t8.2.2.2.1 t8.2.2.2.2; let t10 := num_Meet t5.1 t5.2.1 t5.2.2.1 t5.2.2.2.1 t5.2.2.2.2 t8.1 t8.2.1 t8.2.2.1 t8.2.2.2.1 t8.2.2.2.2; let t11 := bif !a0 then a2 == t1.1 else false; let t12 := num_Meet.ok a0 a1 a2 a3 a4 t8.1 t8.2.1 t8.2.2.1 t8.2.2.2.1 t8.2.2.2.2; let t13 := num_Meet a0 a1 a2 a3 a4 t8.1 t8.2.1 t8.2.2.1 t8.2.2.2.1 t8.2.2.2.2; inv_without.c0 n k a0 a1 a2 a3 a4 b0 b1 b2 b3 b4 t1 t2 t3 t4 t5 t6 t7 t8 t9 t10 t11 t12 t13
def inv_without.ok (a0 : Bool) (a1 a2 a3 a4 : Int) (b0 : Bool) (b1 b2 b3 b4 : Int) : Bool := inv_without.c false (fun _ => true) a0 a1 a2 a3 a4 b0 b1 b2 b3 b4
def inv_without (a0 : Bool) (a1 a2 a3 a4 : Int) (b0 : Bool) (b1 b2 b3 b4 : Int) : N5 := inv_without.c (false, 0, 0, 0, 0) id a0 a1 a2 a3 a4 b0 b1 b2 b3 b4
def inv_without.F : FV := mkF (cP cN (cP cN cU)) (fun | ((a0, a1, a2, a3, a4, ()), (b0, b1, b2, b3, b4, ()), ()) => inv_without.ok a0 a1 a2 a3 a4 b0 b1 b2 b3 b4) (fun | ((a0, a1, a2, a3, a4, ()), (b0, b1, b2, b3, b4, ()), ()) => v9 (inv_without a0 a1 a2 a3 a4 b0 b1 b2 b3 b4))
def L_inv_without : TL := (196, inv_without.F) :: L_inv_upTo
theorem inv_without.p0 {γ : Type} (k : N5 → γ) (a0 a1 a2 a3 a4 b0 b1 b2 b3 b4 t1 t2 t3 t4 t5 t6 t7 t8 t9 t10 t11 t12 t13) : inv_without.c0 false (fun _ => true) a0 a1 a2 a3 a4 b0 b1 b2 b3 b4 t1 t2 t3 t4 t5 t6 t7 t8 t9 t10 t11 t12 t13 = true → inv_without.c0 none (fun q => some (k q)) a0 a1 a2 a3 a4 b0 b1 b2 b3 b4 t1 t2 t3 t4 t5 t6 t7 t8 t9 t10 t11 t12 t13 = some (k (inv_without.c0 (false, 0, 0, 0, 0) id a0 a1 a2 a3 a4 b0 b1 b2 b3 b4 t1 t2 t3 t4 t5 t6 t7 t8 t9 t10 t11 t12 t13)) := by
  unfold inv_without.c0; (repeat' (first | (apply pn k) | (exact pn_none _ _) | (exact pn_leaf k _)))
theorem inv_without.p {γ : Type} (k : N5 → γ) (a0 : Bool) (a1 a2 a3 a4 : Int) (b0 : Bool) (b1 b2 b3 b4 : Int) (h : inv_without.ok a0 a1 a2 a3 a4 b0 b1 b2 b3 b4 = true) : inv_without.c none (fun q => some (k q)) a0 a1 a2 a3 a4 b0 b1 b2 b3 b4 = some (k (inv_without a0 a1 a2 a3 a4 b0 b1 b2 b3 b4)) := by
  revert h; unfold inv_without.ok inv_without inv_without.c; apply inv_without.p0
theorem inv_without.r (a0 : Bool) (a1 a2 a3 a4 : Int) (b0 : Bool) (b1 b2 b3 b4 : Int) : runF P G (tab L_inv_upTo) { merge := true, glue := true } 60 Tryz.f196 [wN a0 a1 a2 a3 a4, wN b0 b1 b2 b3 b4] = inv_without.c none (fun q => some (v9 q)) a0 a1 a2 a3 a4 b0 b1 b2 b3 b4 := by kernel_rfl
theorem inv_without.t : TabOK P G (tab L_inv_without) :=
  TabOK_mkL C inv_upTo.t Tryz.func196 (by kernel_rfl) { merge := true, glue := true } (fun c _ => LoopsOK_nil c) 60 (by
    rintro ⟨⟨a0, a1, a2, a3, a4, ⟨⟩⟩, ⟨b0, b1, b2, b3, b4, ⟨⟩⟩, ⟨⟩⟩ h
    exact (inv_without.r a0 a1 a2 a3 a4 b0 b1 b2 b3 b4).trans (inv_without.p v9 a0 a1 a2 a3 a4 b0 b1 b2 b3 b4 h))
def inv_sides1.c0 {γ : Type} (n : γ) (k : N10 → γ) (a0 : Bool) (a1 a2 a3 a4 : Int) (b0 : Bool) (b1 b2 b3 b4 : Int) (t1 : Bool) (t2 : N5) : γ := bif t1
then bif t1
then k (t2.1, t2.2.1, t2.2.2.1, t2.2.2.2.1, t2.2.2.2.2, t2.1, t2.2.1, t2.2.2.1, t2.2.2.2.1, t2.2.2.2.2)
else n
else n
def inv_sides1.c {γ : Type} (n : γ) (k : N10 → γ) (a0 : Bool) (a1 a2 a3 a4 : Int) (b0 : Bool) (b1 b2 b3 b4 : Int) : γ := let t1 := num_Meet.ok a0 a1 a2 a3 a4 b0 b1 b2 b3 b4; let t2 := num_Meet a0 a1 a2 a3 a4 b0 b1 b2 b3 b4; inv_sides1.c0 n k a0 a1 a2 a3 a4 b0 b1 b2 b3 b4 t1 t2
def inv_sides1.ok (a0 : Bool) (a1 a2 a3 a4 : Int) (b0 : Bool) (b1 b2 b3 b4 : Int) : Bool := inv_sides1.c false (fun _ => true) a0 a1 a2 a3 a4 b0 b1 b2 b3 b4
def inv_sides1 (a0 : Bool) (a1 a2 a3 a4 : Int) (b0 : Bool) (b1 b2 b3 b4 : Int) : N10 := inv_sides1.c (false, 0, 0, 0, 0, false, 0, 0, 0, 0) id a0 a1 a2 a3 a4 b0 b1 b2 b3 b4
def inv_sides1.F : FV := mkF (cP cN (cP cN cU)) (fun | ((a0, a1, a2, a3, a4, ()), (b0, b1, b2, b3, b4, ()), ()) => inv_sides1.ok a0 a1 a2 a3 a4 b0 b1 b2 b3 b4) (fun | ((a0, a1, a2, a3, a4, ()), (b0, b1, b2, b3, b4, ()), ()) => v12 (inv_sides1 a0 a1 a2 a3 a4 b0 b1 b2 b3 b4))
def L_inv_sides1 : TL := (194, inv_sides1.F) :: L_inv_without
theorem inv_sides1.p0 {γ : Type} (k : N10 → γ) (a0 a1 a2 a3 a4 b0 b1 b2 b3 b4 t1 t2) : inv_sides1.c0 false (fun _ => true) a0 a1 a2 a3 a4 b0 b1 b2 b3 b4 t1 t2 = true → inv_sides1.c0 none (fun q => some (k q)) a0 a1 a2 a3 a4 b0 b1 b2 b3 b4 t1 t2 = some (k (inv_sides1.c0 (false, 0, 0, 0, 0, false, 0, 0, 0, 0) id a0 a1 a2 a3 a4 b0 b1 b2 b3 b4 t1 t2)) := by
  unfold inv_sides1.c0; (repeat' (first | (apply pn k) | (exact pn_none _ _) | (exact pn_leaf k _)))
theorem inv_sides1.p {γ : Type} (k : N10 → γ) (a0 : Bool) (a1 a2 a3 a4 : Int) (b0 : Bool) (b1 b2 b3 b4 : Int) (h : inv_sides1.ok a0 a1 a2 a3 a4 b0 b1 b2 b3 b4 = true) : inv_sides1.c none (fun q => some (k q)) a0 a1 a2 a3 a4 b0 b1 b2 b3 b4 = some (k (inv_sides1 a0 a1 a2 a3 a4 b0 b1 b2 b3 b4)) := by
  revert h; unfold inv_sides1.ok inv_sides1 inv_sides1.c; apply inv_sides1.p0
theorem inv_sides1.r (a0 : Bool) (a1 a2 a3 a4 : Int) (b0 : Bool) (b1 b2 b3 b4 : Int) : runF P G (tab L_inv_without) { merge := true, glue := true } 60 Tryz.f194 [wN a0 a1 a2 a3 a4, wN b0 b1 b2 b3 b4] = inv_sides1.c none (fun q => some (v12 q)) a0 a1 a2 a3 a4 b0 b1 b2 b3 b4 := by kernel_rfl
theorem inv_sides1.t : TabOK P G (tab L_inv_sides1) :=
  TabOK_mkL C inv_without.t Tryz.func194 (by kernel_rfl) { merge := true, glue := true } (fun c _ => LoopsOK_nil c) 60 (by
    rintro ⟨⟨a0, a1, a2, a3, a4, ⟨⟩⟩, ⟨b0, b1, b2, b3, b4, ⟨⟩⟩, ⟨⟩⟩ h
    exact (inv_sides1.r a0 a1 a2 a3 a4 b0 b1 b2 b3 b4).trans (inv_sides1.p v12 a0 a1 a2 a3 a4 b0 b1 b2 b3 b4 h))
def inv_sides2.c0 {γ : Type} (n : γ) (k : N10 → γ) (a0 : Bool) (a1 a2 a3 a4 : Int) (b0 : Bool) (b1 b2 b3 b4 : Int) (t1 t2 : Bool) (t3 t4 : N5) : γ := bif t1
then bif t2
then k (t3.1, t3.2.1, t3.2.2.1, t3.2.2.2.1, t3.2.2.2.2, t4.1, t4.2.1, t4.2.2.1, t4.2.2.2.1, t4.2.2.2.2)
else n
else n
def inv_sides2.c {γ : Type} (n : γ) (k : N10 → γ) (a0 : Bool) (a1 a2 a3 a4 : Int) (b0 : Bool) (b1 b2 b3 b4 : Int) : γ := let t1 := inv_without.ok a0 a1 a2 a3 a4 b0 b1 b2 b3 b4; let t2 := inv_without.ok b0 b1 b2 b3 b4 a0 a1 a2 a3 a4; let t3 := inv_without a0 a1 a2 a3 a4 b0 b1 b2 b3 b4; let t4 := inv_without b0 b1 b2 b3 b4 a0 a1 a2 a3 a4; inv_sides2.c0 n k a0 a1 a2 a3 a4 b0 b1 b2 b3 b4 t1 t2 t3 t4
def inv_sides2.ok (a0 : Bool) (a1 a2 a3 a4 : Int) (b0 : Bool) (b1 b2 b3 b4 : Int) : Bool := inv_sides2.c false (fun _ => true) a0 a1 a2 a3 a4 b0 b1 b2 b3 b4
def inv_sides2 (a0 : Bool) (a1 a2 a3 a4 : Int) (b0 : Bool) (b1 b2 b3 b4 : Int) : N10 := inv_sides2.c (false, 0, 0, 0, 0, false, 0, 0, 0, 0) id a0 a1 a2 a3 a4 b0 b1 b2 b3 b4
def inv_sides2.F : FV := mkF (cP cN (cP cN cU)) (fun | ((a0, a1, a2, a3, a4, ()), (b0, b1, b2, b3, b4, ()), ()) => inv_sides2.ok a0 a1 a2 a3 a4 b0 b1 b2 b3 b4) (fun | ((a0, a1, a2, a3, a4, ()), (b0, b1, b2, b3, b4, ()), ()) => v12 (inv_sides2 a0 a1 a2 a3 a4 b0 b1 b2 b3 b4))
def L_inv_sides2 : TL := (195, inv_sides2.F) :: L_inv_sides1
theorem inv_sides2.p0 {γ : Type} (k : N10 → γ) (a0 a1 a2 a3 a4 b0 b1 b2 b3 b4 t1 t2 t3 t4) : inv_sides2.c0 false (fun _ => true) a0 a1 a2 a3 a4 b0 b1 b2 b3 b4 t1 t2 t3 t4 = true → inv_sides2.c0 none (fun q => some (k q)) a0 a1 a2 a3 a4 b0 b1 b2 b3 b4 t1 t2 t3 t4 = some (k (inv_sides2.c0 (false, 0, 0, 0, 0, false, 0, 0, 0, 0) id a0 a1 a2 a3 a4 b0 b1 b2 b3 b4 t1 t2 t3 t4)) := by
  unfold inv_sides2.c0; (repeat' (first | (apply pn k) | (exact pn_none _ _) | (exact pn_leaf k _)))
theorem inv_sides2.p {γ : Type} (k : N10 → γ) (a0 : Bool) (a1 a2 a3 a4 : Int) (b0 : Bool) (b1 b2 b3 b4 : Int) (h : inv_sides2.ok a0 a1 a2 a3 a4 b0 b1 b2 b3 b4 = true) : inv_sides2.c none (fun q => some (k q)) a0 a1 a2 a3 a4 b0 b1 b2 b3 b4 = some (k (inv_sides2 a0 a1 a2 a3 a4 b0 b1 b2 b3 b4)) := by
  revert h; unfold inv_sides2.ok inv_sides2 inv_sides2.c; apply inv_sides2.p0
theorem inv_sides2.r (a0 : Bool) (a1 a2 a3 a4 : Int) (b0 : Bool) (b1 b2 b3 b4 : Int) : runF P G (tab L_inv_sides1) { merge := true, glue := true } 60 Tryz.f195 [wN a0 a1 a2 a3 a4, wN b0 b1 b2 b3 b4] = inv_sides2.c none (fun q => some (v12 q)) a0 a1 a2 a3 a4 b0 b1 b2 b3 b4 := by kernel_rfl
theorem inv_sides2.t : TabOK P G (tab L_inv_sides2) :=
  TabOK_mkL C inv_sides1.t Tryz.func195 (by kernel_rfl) { merge := true, glue := true } (fun c _ => LoopsOK_nil c) 60 (by
    rintro ⟨⟨a0, a1, a2, a3, a4, ⟨⟩⟩, ⟨b0, b1, b2, b3, b4, ⟨⟩⟩, ⟨⟩⟩ h
    exact (inv_sides2.r a0 a1 a2 a3 a4 b0 b1 b2 b3 b4).trans (inv_sides2.p v12 a0 a1 a2 a3 a4 b0 b1 b2 b3 b4 h))
def inv_Compare.c0 {γ : Type} (n : γ) (k : N11 → γ) (a : Int) (b0 : Bool) (b1 b2 b3 b4 : Int) (c0 : Bool) (c1 c2 c3 c4 : Int) (t1 t2 : N5) (t3 t4 : Bool) (t5 t6 : N10) (t7 : Bool) (t8 t9 : N10) (t10 : Bool) (t11 t12 t13 : N10) (t14 : Bool) (t15 t16 t17 : N10) (t18 : Bool) (t19 t20 : N10) (t21 : Bool) (t22 t23 : N10) : γ := bif a == 8
then bif t3
then k (num_Bot.1, num_Bot.2.1, num_Bot.2.2.1, num_Bot.2.2.2.1, num_Bot.2.2.2.2, num_Bot.1, num_Bot.2.1, num_Bot.2.2.1, num_Bot.2.2.2.1, num_Bot.2.2.2.2, 0)
else bif t4
then k (t6.1, t6.2.1, t6.2.2.1, t6.2.2.2.1, t6.2.2.2.2.1, t6.2.2.2.2.2.1, t6.2.2.2.2.2.2.1, t6.2.2.2.2.2.2.2.1, t6.2.2.2.2.2.2.2.2.1, t6.2.2.2.2.2.2.2.2.2, 0)
else n
else bif a == 9
then bif t3
then k (num_Bot.1, num_Bot.2.1, num_Bot.2.2.1, num_Bot.2.2.2.1, num_Bot.2.2.2.2, num_Bot.1, num_Bot.2.1, num_Bot.2.2.1, num_Bot.2.2.2.1, num_Bot.2.2.2.2, 0)
else bif t7
then k (t9.1, t9.2.1, t9.2.2.1, t9.2.2.2.1, t9.2.2.2.2.1, t9.2.2.2.2.2.1, t9.2.2.2.2.2.2.1, t9.2.2.2.2.2.2.2.1, t9.2.2.2.2.2.2.2.2.1, t9.2.2.2.2.2.2.2.2.2, 0)
else n
else bif a == 10
then bif t3
then k (num_Bot.1, num_Bot.2.1, num_Bot.2.2.1, num_Bot.2.2.2.1, num_Bot.2.2.2.2, num_Bot.1, num_Bot.2.1, num_Bot.2.2.1, num_Bot.2.2.2.1, num_Bot.2.2.2.2, 0)
else bif t10
then k (t13.1, t13.2.1, t13.2.2.1, t13.2.2.2.1, t13.2.2.2.2.1, t13.2.2.2.2.2.1, t13.2.2.2.2.2.2.1, t13.2.2.2.2.2.2.2.1, t13.2.2.2.2.2.2.2.2.1, t13.2.2.2.2.2.2.2.2.2, 0)
else n
else bif a == 11
then bif t3
then k (num_Bot.1, num_Bot.2.1, num_Bot.2.2.1, num_Bot.2.2.2.1, num_Bot.2.2.2.2, num_Bot.1, num_Bot.2.1, num_Bot.2.2.1, num_Bot.2.2.2.1, num_Bot.2.2.2.2, 0)
else bif t14
then k (t17.1, t17.2.1, t17.2.2.1, t17.2.2.2.1, t17.2.2.2.2.1, t17.2.2.2.2.2.1, t17.2.2.2.2.2.2.1, t17.2.2.2.2.2.2.2.1, t17.2.2.2.2.2.2.2.2.1, t17.2.2.2.2.2.2.2.2.2, 0)
else n
else bif a == 12
then bif t3
then k (num_Bot.1, num_Bot.2.1, num_Bot.2.2.1, num_Bot.2.2.2.1, num_Bot.2.2.2.2, num_Bot.1, num_Bot.2.1, num_Bot.2.2.1, num_Bot.2.2.2.1, num_Bot.2.2.2.2, 0)
else bif t18
then k (t20.1, t20.2.1, t20.2.2.1, t20.2.2.2.1, t20.2.2.2.2.1, t20.2.2.2.2.2.1, t20.2.2.2.2.2.2.1, t20.2.2.2.2.2.2.2.1, t20.2.2.2.2.2.2.2.2.1, t20.2.2.2.2.2.2.2.2.2, 0)
else n
else bif a == 13
then bif t3
then k (num_Bot.1, num_Bot.2.1, num_Bot.2.2.1, num_Bot.2.2.2.1, num_Bot.2.2.2.2, num_Bot.1, num_Bot.2.1, num_Bot.2.2.1, num_Bot.2.2.2.1, num_Bot.2.2.2.2, 0)
else bif t21
then k (t23.1, t23.2.1, t23.2.2.1, t23.2.2.2.1, t23.2.2.2.2.1, t23.2.2.2.2.2.1, t23.2.2.2.2.2.2.1, t23.2.2.2.2.2.2.2.1, t23.2.2.2.2.2.2.2.2.1, t23.2.2.2.2.2.2.2.2.2, 0)
else n
else k (num_Bot.1, num_Bot.2.1, num_Bot.2.2.1, num_Bot.2.2.2.1, num_Bot.2.2.2.2, num_Bot.1, num_Bot.2.1, num_Bot.2.2.1, num_Bot.2.2.2.1, num_Bot.2.2.2.2, 1)
def inv_Compare.c {γ : Type} (n : γ) (k : N11 → γ) (a : Int) (b0 : Bool) (b1 b2 b3 b4 : Int) (c0 : Bool) (c1 c2 c3 c4 : Int) : γ := let t1 := num_Norm b0 b1 b2 b3 b4; let t2 := num_Norm c0 c1 c2 c3 c4; let t3 := bif t1.1 then true else t2.1; let t4 := inv_below.ok t1.1 t1.2.1 t1.2.2.1 t1.2.2.2.1 t1.2.2.2.2 t2.1 t2.2.1 t2.2.2.1 t2.2.2.2.1 t2.2.2.2.2; let t5 := inv_below t1.1 t1.2.1 t1.2.2.1 t1.2.2.2.1 t1.2.2.2.2 t2.1 t2.2.1 t2.2.2.1 t2.2.2.2.1 t2.2.2.2.2; let t6 := inv_told t5.1 t5.2.1 t5.2.2.1 t5.2.2.2.1 t5.2.2.2.2.1 t5.2.2.2.2.2.1 t5.2.2.2.2.2.2.1 t5.2.2.2.2.2.2.2.1 t5.2.2.2.2.2.2.2.2.1 t5.2.2.2.2.2.2.2.2.2; let t7 := inv_upTo.ok t1.1 t1.2.1 t1.2.2.1 t1.2.2.2.1 t1.2.2.2.2 t2.1 t2.2.1 t2.2.2.1 t2.2.2.2.1 t2.2.2.2.2; let t8 := inv_upTo t1.1 t1.2.1 t1.2.2.1 t1.2.2.2.1 t1.2.2.2.2 t2.1 t2.2.1 t2.2.2.1 t2.2.2.2.1 t2.2.2.2.2; let t9 := inv_told t8.1 t8.2.1 t8.2.2.1 t8.2.2.2.1 t8.2.2.2.2.1 t8.2.2.2.2.2.1 t8.2.2.2.2.2.2.1 t8.2.2.2.2.2.2.2.1 t8.2.2.2.2.2.2.2.2.1 t8.2.2.2.2.2.2.2.2.2; let t10 := inv_below.ok t2.1 t2.2.1 t2.2.2.1 t2.2.2.2.1 t2.2.2.2.2 t1.1 t1.2.1 t1.2.2.1 t1.2.2.2.1 t1.2.2.2.2; let t11 := inv_below t2.1 t2.2.1 t2.2.2.1 t2.2.2.2.1 t2.2.2.2.2 t1.1 t1.2.1 t1.2.2.1 t1.2.2.2.1 t1.2.2.2.2; let t12 := inv_turned t11.1 t11.2.1 t11.2.2.1 t11.2.2.2.1 t11.2.2.2.2.1 t11.2.2.2.2.2.1 t11.2.2.2.2.2.2.1 t11.2.2.2.2.2.2.2.1 t11.2.2.2.2.2.2.2.2.1 t11.2.2.2.2.2.2.2.2.2; let t13 := inv_told t12.1 t12.2.1 t12.2.2.1 t12.2.2.2.1 t12.2.2.2.2.1 t12.2.2.2.2.2.1 t12.2.2.2.2.2.2.1 t12.2.2.2.2.2.2.2.1 t12.2.2.2.2.2.2.2.2.1 t12.2.2.2.2.2.2.2.2.2; let t14 := inv_upTo.ok t2.1 t2.2.1 t2.2.2.1 t2.2.2.2.1 t2.2.2.2.2 t1.1 t1.2.1 t1.2.2.1 t1.2.2.2.1 t1.2.2.2.2; let t15 := inv_upTo t2.1 t2.2.1 t2.2.2.1 t2.2.2.2.1 t2.2.2.2.2 t1.1 t1.2.1 t1.2.2.1 t1.2.2.2.1 t1.2.2.2.2; let t16 := inv_turned t15.1 t15.2.1 t15.2.2.1 t15.2.2.2.1 t15.2.2.2.2.1 t15.2.2.2.2.2.1 t15.2.2.2.2.2.2.1 t15.2.2.2.2.2.2.2.1 t15.2.2.2.2.2.2.2.2.1 t15.2.2.2.2.2.2.2.2.2; let t17 := inv_told t16.1 t16.2.1 t16.2.2.1 t16.2.2.2.1 t16.2.2.2.2.1 t16.2.2.2.2.2.1 t16.2.2.2.2.2.2.1 t16.2.2.2.2.2.2.2.1 t16.2.2.2.2.2.2.2.2.1 t16.2.2.2.2.2.2.2.2.2; let t18 := inv_sides1.ok t1.1 t1.2.1 t1.2.2.1 t1.2.2.2.1 t1.2.2.2.2 t2.1 t2.2.1 t2.2.2.1 t2.2.2.2.1 t2.2.2.2.2; let t19 := inv_sides1 t1.1 t1.2.1 t1.2.2.1 t1.2.2.2.1 t1.2.2.2.2 t2.1 t2.2.1 t2.2.2.1 t2.2.2.2.1 t2.2.2.2.2; let t20 := inv_told t19.1 t19.2.1 t19.2.2.1 t19.2.2.2.1 t19.2.2.2.2.1 t19.2.2.2.2.2.1 t19.2.2.2.2.2.2.1 t19.2.2.2.2.2.2.2.1 t19.2.2.2.2.2.2.2.2.1 t19.2.2.2.2.2.2.2.2.2; let t21 := inv_sides2.ok t1.1 t1.2.1 t1.2.2.1 t1.2.2.2.1 t1.2.2.2.2 t2.1 t2.2.1 t2.2.2.1 t2.2.2.2.1 t2.2.2.2.2; let t22 := inv_sides2 t1.1 t1.2.1 t1.2.2.1 t1.2.2.2.1 t1.2.2.2.2 t2.1 t2.2.1 t2.2.2.1 t2.2.2.2.1 t2.2.2.2.2; let t23 := inv_told t22.1 t22.2.1 t22.2.2.1 t22.2.2.2.1 t22.2.2.2.2.1 t22.2.2.2.2.2.1 t22.2.2.2.2.2.2.1 t22.2.2.2.2.2.2.2.1 t22.2.2.2.2.2.2.2.2.1 t22.2.2.2.2.2.2.2.2.2; inv_Compare.c0 n k a b0 b1 b2 b3 b4 c0 c1 c2 c3 c4 t1 t2 t3 t4 t5 t6 t7 t8 t9 t10 t11 t12 t13 t14 t15 t16 t17 t18 t19 t20 t21 t22 t23
def inv_Compare.ok (a : Int) (b0 : Bool) (b1 b2 b3 b4 : Int) (c0 : Bool) (c1 c2 c3 c4 : Int) : Bool := inv_Compare.c false (fun _ => true) a b0 b1 b2 b3 b4 c0 c1 c2 c3 c4
def inv_Compare (a : Int) (b0 : Bool) (b1 b2 b3 b4 : Int) (c0 : Bool) (c1 c2 c3 c4 : Int) : N11 := inv_Compare.c (false, 0, 0, 0, 0, false, 0, 0, 0, 0, 0) id a b0 b1 b2 b3 b4 c0 c1 c2 c3 c4
def inv_Compare.F : FV := mkF (cP (cI .i64) (cP cN (cP cN cU))) (fun | (a, (b0, b1, b2, b3, b4, ()), (c0, c1, c2, c3, c4, ()), ()) => inv_Compare.ok a b0 b1 b2 b3 b4 c0 c1 c2 c3 c4) (fun | (a, (b0, b1, b2, b3, b4, ()), (c0, c1, c2, c3, c4, ()), ()) => v14 (inv_Compare a b0 b1 b2 b3 b4 c0 c1 c2 c3 c4))
def L_inv_Compare : TL := (47, inv_Compare.F) :: L_inv_sides2
theorem inv_Compare.p0 {γ : Type} (k : N11 → γ) (a b0 b1 b2 b3 b4 c0 c1 c2 c3 c4 t1 t2 t3 t4 t5 t6 t7 t8 t9 t10 t11 t12 t13 t14 t15 t16 t17 t18 t19 t20 t21 t22 t23) : inv_Compare.c0 false (fun _ => true) a b0 b1 b2 b3 b4 c0 c1 c2 c3 c4 t1 t2 t3 t4 t5 t6 t7 t8 t9 t10 t11 t12 t13 t14 t15 t16 t17 t18 t19 t20 t21 t22 t23 = true → inv_Compare.c0 none (fun q => some (k q)) a b0 b1 b2 b3 b4 c0 c1 c2 c3 c4 t1 t2 t3 t4 t5 t6 t7 t8 t9 t10 t11 t12 t13 t14 t15 t16 t17 t18 t19 t20 t21 t22 t23 = some (k (inv_Compare.c0 (false, 0, 0, 0, 0, false, 0, 0, 0, 0, 0) id a b0 b1 b2 b3 b4 c0 c1 c2 c3 c4 t1 t2 t3 t4 t5 t6 t7 t8 t9 t10 t11 t12 t13 t14 t15 t16 t17 t18 t19 t20 t21 t22 t23)) := by
  unfold inv_Compare.c0; (repeat' (first | (apply pn k) | (exact pn_none _ _) | (exact pn_leaf k _)))
theorem inv_Compare.p {γ : Type} (k : N11 → γ) (a : Int) (b0 : Bool) (b1 b2 b3 b4 : Int) (c0 : Bool) (c1 c2 c3 c4 : Int) (h : inv_Compare.ok a b0 b1 b2 b3 b4 c0 c1 c2 c3 c4 = true) : inv_Compare.c none (fun q => some (k q)) a b0 b1 b2 b3 b4 c0 c1 c2 c3 c4 = some (k (inv_Compare a b0 b1 b2 b3 b4 c0 c1 c2 c3 c4)) := by
  revert h; unfold inv_Compare.ok inv_Compare inv_Compare.c; apply inv_Compare.p0
theorem inv_Compare.r (a : Int) (b0 : Bool) (b1 b2 b3 b4 : Int) (c0 : Bool) (c1 c2 c3 c4 : Int) : runF P G (tab L_inv_sides2) { merge := true, glue := true, arr := true } 60 Tryz.f47 [.int .i64 a, wN b0 b1 b2 b3 b4, wN c0 c1 c2 c3 c4] = inv_Compare.c none (fun q => some (v14 q)) a b0 b1 b2 b3 b4 c0 c1 c2 c3 c4 := by kernel_rfl
theorem inv_Compare.t : TabOK P G (tab L_inv_Compare) :=
  TabOK_mkL C inv_sides2.t Tryz.func47 (by kernel_rfl) { merge := true, glue := true, arr := true } (fun c _ => LoopsOK_nil c) 60 (by
    rintro ⟨a, ⟨b0, b1, b2, b3, b4, ⟨⟩⟩, ⟨c0, c1, c2, c3, c4, ⟨⟩⟩, ⟨⟩⟩ h
    exact (inv_Compare.r a b0 b1 b2 b3 b4 c0 c1 c2 c3 c4).trans (inv_Compare.p v14 a b0 b1 b2 b3 b4 c0 c1 c2 c3 c4 h))
def inv_Negate.c {γ : Type} (k : Int × Int → γ) (a : Int) : γ := bif a == 8
then k (11, 0)
else bif a == 9
then k (10, 0)
else bif a == 10
then k (9, 0)
else bif a == 11
then k (8, 0)
else bif a == 12
then k (13, 0)
else bif a == 13
then k (12, 0)
else k (0, 1)
def inv_Negate (a : Int) : Int × Int := inv_Negate.c id a
def v15 (q : Int × Int) : Value := .tuple #[.int .i64 q.1, .int .i64 q.2]
def inv_Negate.F : FV := mkF (cP (cI .i64) cU) (fun _ => true) (fun | (a, ()) => v15 (inv_Negate a))
def L_inv_Negate : TL := (49, inv_Negate.F) :: L_inv_Compare
theorem inv_Negate.p {γ : Type} (k : Int × Int → γ) (a : Int) : inv_Negate.c k a = k (inv_Negate a) := by
  unfold inv_Negate inv_Negate.c; (repeat' (first | (apply pc k) | (exact rfl)))
theorem inv_Negate.r (a : Int) : runF P G (tab L_inv_Compare) { merge := true, glue := true, arr := true } 60 Tryz.f49 [.int .i64 a] = inv_Negate.c (fun q => some (v15 q)) a := by kernel_rfl
theorem inv_Negate.t : TabOK P G (tab L_inv_Negate) :=
  TabOK_mkL C inv_Compare.t Tryz.func49 (by kernel_rfl) { merge := true, glue := true, arr := true } (fun c _ => LoopsOK_nil c) 60 (by
    rintro ⟨a, ⟨⟩⟩ h
    exact (inv_Negate.r a).trans (inv_Negate.p (fun q => some (.tuple #[.int .i64 (q).1, .int .i64 (q).2] : Value)) a))
end
end Go.Proofs.YtonpbbhlmapbdaaGreatDoor.V
