/- What the functions of this seat compute, told by evaluation of their code. Conditions: none. -/
import Derived.Test.YtonpbbhlmapbdaaGreatDoorF1
set_option linter.unusedVariables false
set_option linter.unusedSimpArgs false
namespace Go.Proofs.YtonpbbhlmapbdaaGreatDoor.V
open Go Go.Wk
noncomputable section
def r14_product.c0 {γ : Type} (n : γ) (k : Int × Int → γ) (a b : Int) (t1 : Bool) (t2 : Int × Int) : γ := bif t1
then k (t2.1, t2.2)
else n
def r14_product.c {γ : Type} (n : γ) (k : Int × Int → γ) (a b : Int) : γ := let t1 := w1_Wide.ok a b; let t2 := w1_Wide a b; r14_product.c0 n k a b t1 t2
def r14_product.ok (a b : Int) : Bool := r14_product.c false (fun _ => true) a b
def r14_product (a b : Int) : Int × Int := r14_product.c (0, 0) id a b
def r14_product.F : FV := mkF (cP (cI .i64) (cP (cI .i64) cU)) (fun | (a, b, ()) => r14_product.ok a b) (fun | (a, b, ()) => v5 (r14_product a b))
def L_r14_product : TL := (182, r14_product.F) :: L_w1_Mod
theorem r14_product.p0 {γ : Type} (k : Int × Int → γ) (a b t1 t2) : r14_product.c0 false (fun _ => true) a b t1 t2 = true → r14_product.c0 none (fun q => some (k q)) a b t1 t2 = some (k (r14_product.c0 (0, 0) id a b t1 t2)) := by
  unfold r14_product.c0; (repeat' (first | (apply pn k) | (exact pn_none _ _) | (exact pn_leaf k _)))
theorem r14_product.p {γ : Type} (k : Int × Int → γ) (a b : Int) (h : r14_product.ok a b = true) : r14_product.c none (fun q => some (k q)) a b = some (k (r14_product a b)) := by
  revert h; unfold r14_product.ok r14_product r14_product.c; apply r14_product.p0
theorem r14_product.r (a b : Int) : runF P G (tab L_w1_Mod) { merge := true, glue := true } 60 Tryz.f182 [.int .i64 a, .int .i64 b] = r14_product.c none (fun q => some (v5 q)) a b := by kernel_rfl
theorem r14_product.t : TabOK P G (tab L_r14_product) :=
  TabOK_mkL C w1_Mod.t Tryz.func182 (by kernel_rfl) { merge := true, glue := true } (fun c _ => LoopsOK_nil c) 60 (by
    rintro ⟨a, b, ⟨⟩⟩ h
    exact (r14_product.r a b).trans (r14_product.p v5 a b h))
def r14_less.c0 {γ : Type} (k : Bool → γ) (a0 a1 b0 b1 : Int) (t1 t2 : Bool) : γ := k (t2)
def r14_less.c {γ : Type} (k : Bool → γ) (a0 a1 b0 b1 : Int) : γ := let t1 := bif a0 == b0 then decide (a1 < b1) else false; let t2 := bif decide (a0 < b0) then true else t1; r14_less.c0 k a0 a1 b0 b1 t1 t2
def r14_less (a0 a1 b0 b1 : Int) : Bool := r14_less.c id a0 a1 b0 b1
def r14_less.F : FV := mkF (cP (cA (cP (cI .i64) (cP (cI .u64) cU))) (cP (cA (cP (cI .i64) (cP (cI .u64) cU))) cU)) (fun _ => true) (fun | ((a0, a1, ()), (b0, b1, ()), ()) => .bool (r14_less a0 a1 b0 b1))
def L_r14_less : TL := (184, r14_less.F) :: L_r14_product
theorem r14_less.p0 {γ : Type} (k : Bool → γ) (a0 a1 b0 b1 t1 t2) : r14_less.c0 k a0 a1 b0 b1 t1 t2 = k (r14_less.c0 id a0 a1 b0 b1 t1 t2) := by
  unfold r14_less.c0; (repeat' (first | (apply pc k) | (exact rfl)))
theorem r14_less.p {γ : Type} (k : Bool → γ) (a0 a1 b0 b1 : Int) : r14_less.c k a0 a1 b0 b1 = k (r14_less a0 a1 b0 b1) := by
  unfold r14_less r14_less.c; apply r14_less.p0
theorem r14_less.r (a0 a1 b0 b1 : Int) : runF P G (tab L_r14_product) { merge := true, glue := true } 60 Tryz.f184 [.agg #[.int .i64 a0, .int .u64 a1], .agg #[.int .i64 b0, .int .u64 b1]] = r14_less.c (fun q => some (.bool (q) : Value)) a0 a1 b0 b1 := by kernel_rfl
theorem r14_less.t : TabOK P G (tab L_r14_less) :=
  TabOK_mkL C r14_product.t Tryz.func184 (by kernel_rfl) { merge := true, glue := true } (fun c _ => LoopsOK_nil c) 60 (by
    rintro ⟨⟨a0, a1, ⟨⟩⟩, ⟨b0, b1, ⟨⟩⟩, ⟨⟩⟩ h
    exact (r14_less.r a0 a1 b0 b1).trans (r14_less.p (fun q => some (.bool (q) : Value)) a0 a1 b0 b1))
def r14_plus.c0 {γ : Type} (k : Int × Int → γ) (a0 a1 b t1 t2 : Int) : γ := bif decide (t1 < b)
then k (t2, t1)
else k (a0, t1)
def r14_plus.c {γ : Type} (k : Int × Int → γ) (a0 a1 b : Int) : γ := let t1 := IntKind.u64.wrap (a1 + b); let t2 := IntKind.i64.wrap (a0 + 1); r14_plus.c0 k a0 a1 b t1 t2
def r14_plus (a0 a1 b : Int) : Int × Int := r14_plus.c id a0 a1 b
def r14_plus.F : FV := mkF (cP (cA (cP (cI .i64) (cP (cI .u64) cU))) (cP (cI .u64) cU)) (fun _ => true) (fun | ((a0, a1, ()), b, ()) => v5 (r14_plus a0 a1 b))
def L_r14_plus : TL := (188, r14_plus.F) :: L_r14_less
theorem r14_plus.p0 {γ : Type} (k : Int × Int → γ) (a0 a1 b t1 t2) : r14_plus.c0 k a0 a1 b t1 t2 = k (r14_plus.c0 id a0 a1 b t1 t2) := by
  unfold r14_plus.c0; (repeat' (first | (apply pc k) | (exact rfl)))
theorem r14_plus.p {γ : Type} (k : Int × Int → γ) (a0 a1 b : Int) : r14_plus.c k a0 a1 b = k (r14_plus a0 a1 b) := by
  unfold r14_plus r14_plus.c; apply r14_plus.p0
theorem r14_plus.r (a0 a1 b : Int) : runF P G (tab L_r14_less) { merge := true, glue := true } 60 Tryz.f188 [.agg #[.int .i64 a0, .int .u64 a1], .int .u64 b] = r14_plus.c (fun q => some (v5 q)) a0 a1 b := by kernel_rfl
theorem r14_plus.t : TabOK P G (tab L_r14_plus) :=
  TabOK_mkL C r14_less.t Tryz.func188 (by kernel_rfl) { merge := true, glue := true } (fun c _ => LoopsOK_nil c) 60 (by
    rintro ⟨⟨a0, a1, ⟨⟩⟩, b, ⟨⟩⟩ h
    exact (r14_plus.r a0 a1 b).trans (r14_plus.p (fun q => some (.agg #[.int .i64 (q).1, .int .u64 (q).2] : Value)) a0 a1 b))
def r14_minus.c0 {γ : Type} (k : Int × Int → γ) (a0 a1 b t1 t2 : Int) : γ := bif decide (a1 < b)
then k (t1, t2)
else k (a0, t2)
def r14_minus.c {γ : Type} (k : Int × Int → γ) (a0 a1 b : Int) : γ := let t1 := IntKind.i64.wrap (a0 - 1); let t2 := IntKind.u64.wrap (a1 - b); r14_minus.c0 k a0 a1 b t1 t2
def r14_minus (a0 a1 b : Int) : Int × Int := r14_minus.c id a0 a1 b
def r14_minus.F : FV := mkF (cP (cA (cP (cI .i64) (cP (cI .u64) cU))) (cP (cI .u64) cU)) (fun _ => true) (fun | ((a0, a1, ()), b, ()) => v5 (r14_minus a0 a1 b))
def L_r14_minus : TL := (187, r14_minus.F) :: L_r14_plus
theorem r14_minus.p0 {γ : Type} (k : Int × Int → γ) (a0 a1 b t1 t2) : r14_minus.c0 k a0 a1 b t1 t2 = k (r14_minus.c0 id a0 a1 b t1 t2) := by
  unfold r14_minus.c0; (repeat' (first | (apply pc k) | (exact rfl)))
theorem r14_minus.p {γ : Type} (k : Int × Int → γ) (a0 a1 b : Int) : r14_minus.c k a0 a1 b = k (r14_minus a0 a1 b) := by
  unfold r14_minus r14_minus.c; apply r14_minus.p0
theorem r14_minus.r (a0 a1 b : Int) : runF P G (tab L_r14_plus) { merge := true, glue := true } 60 Tryz.f187 [.agg #[.int .i64 a0, .int .u64 a1], .int .u64 b] = r14_minus.c (fun q => some (v5 q)) a0 a1 b := by kernel_rfl
theorem r14_minus.t : TabOK P G (tab L_r14_minus) :=
  TabOK_mkL C r14_plus.t Tryz.func187 (by kernel_rfl) { merge := true, glue := true } (fun c _ => LoopsOK_nil c) 60 (by
    rintro ⟨⟨a0, a1, ⟨⟩⟩, b, ⟨⟩⟩ h
    exact (r14_minus.r a0 a1 b).trans (r14_minus.p (fun q => some (.agg #[.int .i64 (q).1, .int .u64 (q).2] : Value)) a0 a1 b))
def r14_small.c0 {γ : Type} (k : Bool → γ) (a0 a1 : Int) (t1 t2 t3 : Bool) : γ := k (t3)
def r14_small.c {γ : Type} (k : Bool → γ) (a0 a1 : Int) : γ := let t1 := bif a0 == 0 then decide (a1 ≤ 9223372036854775807) else false; let t2 := bif a0 == -1 then decide (a1 ≥ 9223372036854775808) else false; let t3 := bif t1 then true else t2; r14_small.c0 k a0 a1 t1 t2 t3
def r14_small (a0 a1 : Int) : Bool := r14_small.c id a0 a1
def r14_small.F : FV := mkF (cP (cA (cP (cI .i64) (cP (cI .u64) cU))) cU) (fun _ => true) (fun | ((a0, a1, ()), ()) => .bool (r14_small a0 a1))
def L_r14_small : TL := (181, r14_small.F) :: L_r14_minus
theorem r14_small.p0 {γ : Type} (k : Bool → γ) (a0 a1 t1 t2 t3) : r14_small.c0 k a0 a1 t1 t2 t3 = k (r14_small.c0 id a0 a1 t1 t2 t3) := by
  unfold r14_small.c0; (repeat' (first | (apply pc k) | (exact rfl)))
theorem r14_small.p {γ : Type} (k : Bool → γ) (a0 a1 : Int) : r14_small.c k a0 a1 = k (r14_small a0 a1) := by
  unfold r14_small r14_small.c; apply r14_small.p0
theorem r14_small.r (a0 a1 : Int) : runF P G (tab L_r14_minus) { merge := true, glue := true } 60 Tryz.f181 [.agg #[.int .i64 a0, .int .u64 a1]] = r14_small.c (fun q => some (.bool (q) : Value)) a0 a1 := by kernel_rfl
theorem r14_small.t : TabOK P G (tab L_r14_small) :=
  TabOK_mkL C r14_minus.t Tryz.func181 (by kernel_rfl) { merge := true, glue := true } (fun c _ => LoopsOK_nil c) 60 (by
    rintro ⟨⟨a0, a1, ⟨⟩⟩, ⟨⟩⟩ h
    exact (r14_small.r a0 a1).trans (r14_small.p (fun q => some (.bool (q) : Value)) a0 a1))
def r14_clipped.c0 {γ : Type} (n : γ) (k : N5 → γ) (a0 a1 b0 b1 : Int) (t1 t2 : Bool) (t3 : Int × Int) (t4 t5 : Bool) (t6 : Int × Int) (t7 t8 t9 : Bool) (t10 t11 : Int) (t12 : Bool) (t13 t14 : Int) (t15 : Bool) (t16 : N5) : γ := bif t1
then bif t8
then k (nref_Bot.1, nref_Bot.2.1, nref_Bot.2.2.1, nref_Bot.2.2.2.1, nref_Bot.2.2.2.2)
else bif t15
then k (t16.1, t16.2.1, t16.2.2.1, t16.2.2.2.1, t16.2.2.2.2)
else n
else n
def r14_clipped.c {γ : Type} (n : γ) (k : N5 → γ) (a0 a1 b0 b1 : Int) : γ := let t1 := r14_product.ok (-9223372036854775808) 1; let t2 := r14_less b0 b1 a0 a1; let t3 := r14_product (-9223372036854775808) 1; let t4 := r14_less b0 b1 t3.1 t3.2; let t5 := bif t2 then true else t4; let t6 := r14_product 9223372036854775807 1; let t7 := r14_less t6.1 t6.2 a0 a1; let t8 := bif t5 then true else t7; let t9 := r14_less a0 a1 t3.1 t3.2; let t10 := bif t9 then t3.2 else a1; let t11 := IntKind.i64.wrap t10; let t12 := r14_less t6.1 t6.2 b0 b1; let t13 := bif t12 then t6.2 else b1; let t14 := IntKind.i64.wrap t13; let t15 := nref_Range.ok t11 t14; let t16 := nref_Range t11 t14; r14_clipped.c0 n k a0 a1 b0 b1 t1 t2 t3 t4 t5 t6 t7 t8 t9 t10 t11 t12 t13 t14 t15 t16
def r14_clipped.ok (a0 a1 b0 b1 : Int) : Bool := r14_clipped.c false (fun _ => true) a0 a1 b0 b1
def r14_clipped (a0 a1 b0 b1 : Int) : N5 := r14_clipped.c (false, 0, 0, 0, 0) id a0 a1 b0 b1
def r14_clipped.F : FV := mkF (cP (cA (cP (cI .i64) (cP (cI .u64) cU))) (cP (cA (cP (cI .i64) (cP (cI .u64) cU))) cU)) (fun | ((a0, a1, ()), (b0, b1, ()), ()) => r14_clipped.ok a0 a1 b0 b1) (fun | ((a0, a1, ()), (b0, b1, ()), ()) => v9 (r14_clipped a0 a1 b0 b1))
def L_r14_clipped : TL := (186, r14_clipped.F) :: L_r14_small
theorem r14_clipped.p0 {γ : Type} (k : N5 → γ) (a0 a1 b0 b1 t1 t2 t3 t4 t5 t6 t7 t8 t9 t10 t11 t12 t13 t14 t15 t16) : r14_clipped.c0 false (fun _ => true) a0 a1 b0 b1 t1 t2 t3 t4 t5 t6 t7 t8 t9 t10 t11 t12 t13 t14 t15 t16 = true → r14_clipped.c0 none (fun q => some (k q)) a0 a1 b0 b1 t1 t2 t3 t4 t5 t6 t7 t8 t9 t10 t11 t12 t13 t14 t15 t16 = some (k (r14_clipped.c0 (false, 0, 0, 0, 0) id a0 a1 b0 b1 t1 t2 t3 t4 t5 t6 t7 t8 t9 t10 t11 t12 t13 t14 t15 t16)) := by
  unfold r14_clipped.c0; (repeat' (first | (apply pn k) | (exact pn_none _ _) | (exact pn_leaf k _)))
theorem r14_clipped.p {γ : Type} (k : N5 → γ) (a0 a1 b0 b1 : Int) (h : r14_clipped.ok a0 a1 b0 b1 = true) : r14_clipped.c none (fun q => some (k q)) a0 a1 b0 b1 = some (k (r14_clipped a0 a1 b0 b1)) := by
  revert h; unfold r14_clipped.ok r14_clipped r14_clipped.c; apply r14_clipped.p0
theorem r14_clipped.r (a0 a1 b0 b1 : Int) : runF P G (tab L_r14_small) { merge := true, glue := true } 60 Tryz.f186 [.agg #[.int .i64 a0, .int .u64 a1], .agg #[.int .i64 b0, .int .u64 b1]] = r14_clipped.c none (fun q => some (v9 q)) a0 a1 b0 b1 := by kernel_rfl
theorem r14_clipped.t : TabOK P G (tab L_r14_clipped) :=
  TabOK_mkL C r14_small.t Tryz.func186 (by kernel_rfl) { merge := true, glue := true } (fun c _ => LoopsOK_nil c) 60 (by
    rintro ⟨⟨a0, a1, ⟨⟩⟩, ⟨b0, b1, ⟨⟩⟩, ⟨⟩⟩ h
    exact (r14_clipped.r a0 a1 b0 b1).trans (r14_clipped.p v9 a0 a1 b0 b1 h))
def r14_from.c0 {γ : Type} (n : γ) (k : N5 → γ) (a : Int) (t1 : Bool) (t2 : N5) : γ := bif t1
then k (t2.1, t2.2.1, t2.2.2.1, t2.2.2.2.1, t2.2.2.2.2)
else n
def r14_from.c {γ : Type} (n : γ) (k : N5 → γ) (a : Int) : γ := let t1 := nref_Range.ok a 9223372036854775807; let t2 := nref_Range a 9223372036854775807; r14_from.c0 n k a t1 t2
def r14_from.ok (a : Int) : Bool := r14_from.c false (fun _ => true) a
def r14_from (a : Int) : N5 := r14_from.c (false, 0, 0, 0, 0) id a
def r14_from.F : FV := mkF (cP (cI .i64) cU) (fun | (a, ()) => r14_from.ok a) (fun | (a, ()) => v9 (r14_from a))
def L_r14_from : TL := (105, r14_from.F) :: L_r14_clipped
theorem r14_from.p0 {γ : Type} (k : N5 → γ) (a t1 t2) : r14_from.c0 false (fun _ => true) a t1 t2 = true → r14_from.c0 none (fun q => some (k q)) a t1 t2 = some (k (r14_from.c0 (false, 0, 0, 0, 0) id a t1 t2)) := by
  unfold r14_from.c0; (repeat' (first | (apply pn k) | (exact pn_none _ _) | (exact pn_leaf k _)))
theorem r14_from.p {γ : Type} (k : N5 → γ) (a : Int) (h : r14_from.ok a = true) : r14_from.c none (fun q => some (k q)) a = some (k (r14_from a)) := by
  revert h; unfold r14_from.ok r14_from r14_from.c; apply r14_from.p0
theorem r14_from.r (a : Int) : runF P G (tab L_r14_clipped) { merge := true, glue := true } 60 Tryz.f105 [.int .i64 a] = r14_from.c none (fun q => some (v9 q)) a := by kernel_rfl
theorem r14_from.t : TabOK P G (tab L_r14_from) :=
  TabOK_mkL C r14_clipped.t Tryz.func105 (by kernel_rfl) { merge := true, glue := true } (fun c _ => LoopsOK_nil c) 60 (by
    rintro ⟨a, ⟨⟩⟩ h
    exact (r14_from.r a).trans (r14_from.p v9 a h))
def r14_to.c0 {γ : Type} (n : γ) (k : N5 → γ) (a : Int) (t1 : Bool) (t2 : N5) : γ := bif t1
then k (t2.1, t2.2.1, t2.2.2.1, t2.2.2.2.1, t2.2.2.2.2)
else n
def r14_to.c {γ : Type} (n : γ) (k : N5 → γ) (a : Int) : γ := let t1 := nref_Range.ok (-9223372036854775808) a; let t2 := nref_Range (-9223372036854775808) a; r14_to.c0 n k a t1 t2
def r14_to.ok (a : Int) : Bool := r14_to.c false (fun _ => true) a
def r14_to (a : Int) : N5 := r14_to.c (false, 0, 0, 0, 0) id a
def r14_to.F : FV := mkF (cP (cI .i64) cU) (fun | (a, ()) => r14_to.ok a) (fun | (a, ()) => v9 (r14_to a))
def L_r14_to : TL := (104, r14_to.F) :: L_r14_from
theorem r14_to.p0 {γ : Type} (k : N5 → γ) (a t1 t2) : r14_to.c0 false (fun _ => true) a t1 t2 = true → r14_to.c0 none (fun q => some (k q)) a t1 t2 = some (k (r14_to.c0 (false, 0, 0, 0, 0) id a t1 t2)) := by
  unfold r14_to.c0; (repeat' (first | (apply pn k) | (exact pn_none _ _) | (exact pn_leaf k _)))
theorem r14_to.p {γ : Type} (k : N5 → γ) (a : Int) (h : r14_to.ok a = true) : r14_to.c none (fun q => some (k q)) a = some (k (r14_to a)) := by
  revert h; unfold r14_to.ok r14_to r14_to.c; apply r14_to.p0
theorem r14_to.r (a : Int) : runF P G (tab L_r14_from) { merge := true, glue := true } 60 Tryz.f104 [.int .i64 a] = r14_to.c none (fun q => some (v9 q)) a := by kernel_rfl
theorem r14_to.t : TabOK P G (tab L_r14_to) :=
  TabOK_mkL C r14_from.t Tryz.func104 (by kernel_rfl) { merge := true, glue := true } (fun c _ => LoopsOK_nil c) 60 (by
    rintro ⟨a, ⟨⟩⟩ h
    exact (r14_to.r a).trans (r14_to.p v9 a h))
def r14_bot.c0 {γ : Type} (n : γ) (k : Bool → γ) (a0 : Bool) (a1 a2 a3 a4 : Int) (t1 : Bool) (t2 : N5) : γ := bif t1
then k (t2.1)
else n
def r14_bot.c {γ : Type} (n : γ) (k : Bool → γ) (a0 : Bool) (a1 a2 a3 a4 : Int) : γ := let t1 := nref_Norm.ok a0 a1 a2 a3 a4; let t2 := nref_Norm a0 a1 a2 a3 a4; r14_bot.c0 n k a0 a1 a2 a3 a4 t1 t2
def r14_bot.ok (a0 : Bool) (a1 a2 a3 a4 : Int) : Bool := r14_bot.c false (fun _ => true) a0 a1 a2 a3 a4
def r14_bot (a0 : Bool) (a1 a2 a3 a4 : Int) : Bool := r14_bot.c (false) id a0 a1 a2 a3 a4
def r14_bot.F : FV := mkF (cP cN cU) (fun | ((a0, a1, a2, a3, a4, ()), ()) => r14_bot.ok a0 a1 a2 a3 a4) (fun | ((a0, a1, a2, a3, a4, ()), ()) => .bool (r14_bot a0 a1 a2 a3 a4))
def L_r14_bot : TL := (97, r14_bot.F) :: L_r14_to
theorem r14_bot.p0 {γ : Type} (k : Bool → γ) (a0 a1 a2 a3 a4 t1 t2) : r14_bot.c0 false (fun _ => true) a0 a1 a2 a3 a4 t1 t2 = true → r14_bot.c0 none (fun q => some (k q)) a0 a1 a2 a3 a4 t1 t2 = some (k (r14_bot.c0 (false) id a0 a1 a2 a3 a4 t1 t2)) := by
  unfold r14_bot.c0; (repeat' (first | (apply pn k) | (exact pn_none _ _) | (exact pn_leaf k _)))
theorem r14_bot.p {γ : Type} (k : Bool → γ) (a0 : Bool) (a1 a2 a3 a4 : Int) (h : r14_bot.ok a0 a1 a2 a3 a4 = true) : r14_bot.c none (fun q => some (k q)) a0 a1 a2 a3 a4 = some (k (r14_bot a0 a1 a2 a3 a4)) := by
  revert h; unfold r14_bot.ok r14_bot r14_bot.c; apply r14_bot.p0
theorem r14_bot.r (a0 : Bool) (a1 a2 a3 a4 : Int) : runF P G (tab L_r14_to) { merge := true, glue := true } 60 Tryz.f97 [wN a0 a1 a2 a3 a4] = r14_bot.c none (fun q => some (.bool (q) : Value)) a0 a1 a2 a3 a4 := by kernel_rfl
theorem r14_bot.t : TabOK P G (tab L_r14_bot) :=
  TabOK_mkL C r14_to.t Tryz.func97 (by kernel_rfl) { merge := true, glue := true } (fun c _ => LoopsOK_nil c) 60 (by
    rintro ⟨⟨a0, a1, a2, a3, a4, ⟨⟩⟩, ⟨⟩⟩ h
    exact (r14_bot.r a0 a1 a2 a3 a4).trans (r14_bot.p (fun q => (.bool (q) : Value)) a0 a1 a2 a3 a4 h))
def r14_one.c0 {γ : Type} (k : Bool → γ) (a0 : Bool) (a1 a2 a3 a4 : Int) (t1 : Bool) : γ := k (t1)
def r14_one.c {γ : Type} (k : Bool → γ) (a0 : Bool) (a1 a2 a3 a4 : Int) : γ := let t1 := bif !a0 then a1 == a2 else false; r14_one.c0 k a0 a1 a2 a3 a4 t1
def r14_one (a0 : Bool) (a1 a2 a3 a4 : Int) : Bool := r14_one.c id a0 a1 a2 a3 a4
def r14_one.F : FV := mkF (cP cN cU) (fun _ => true) (fun | ((a0, a1, a2, a3, a4, ()), ()) => .bool (r14_one a0 a1 a2 a3 a4))
def L_r14_one : TL := (106, r14_one.F) :: L_r14_bot
theorem r14_one.p0 {γ : Type} (k : Bool → γ) (a0 a1 a2 a3 a4 t1) : r14_one.c0 k a0 a1 a2 a3 a4 t1 = k (r14_one.c0 id a0 a1 a2 a3 a4 t1) := by
  unfold r14_one.c0; (repeat' (first | (apply pc k) | (exact rfl)))
theorem r14_one.p {γ : Type} (k : Bool → γ) (a0 : Bool) (a1 a2 a3 a4 : Int) : r14_one.c k a0 a1 a2 a3 a4 = k (r14_one a0 a1 a2 a3 a4) := by
  unfold r14_one r14_one.c; apply r14_one.p0
theorem r14_one.r (a0 : Bool) (a1 a2 a3 a4 : Int) : runF P G (tab L_r14_bot) { merge := true, glue := true } 60 Tryz.f106 [wN a0 a1 a2 a3 a4] = r14_one.c (fun q => some (.bool (q) : Value)) a0 a1 a2 a3 a4 := by kernel_rfl
theorem r14_one.t : TabOK P G (tab L_r14_one) :=
  TabOK_mkL C r14_bot.t Tryz.func106 (by kernel_rfl) { merge := true, glue := true } (fun c _ => LoopsOK_nil c) 60 (by
    rintro ⟨⟨a0, a1, a2, a3, a4, ⟨⟩⟩, ⟨⟩⟩ h
    exact (r14_one.r a0 a1 a2 a3 a4).trans (r14_one.p (fun q => some (.bool (q) : Value)) a0 a1 a2 a3 a4))
def r14_both.c0 {γ : Type} (k : N11 → γ) (a0 : Bool) (a1 a2 a3 a4 : Int) (b0 : Bool) (b1 b2 b3 b4 : Int) (t1 : Bool) : γ := bif t1
then k (nref_Bot.1, nref_Bot.2.1, nref_Bot.2.2.1, nref_Bot.2.2.2.1, nref_Bot.2.2.2.2, nref_Bot.1, nref_Bot.2.1, nref_Bot.2.2.1, nref_Bot.2.2.2.1, nref_Bot.2.2.2.2, 0)
else k (a0, a1, a2, a3, a4, b0, b1, b2, b3, b4, 0)
def r14_both.c {γ : Type} (k : N11 → γ) (a0 : Bool) (a1 a2 a3 a4 : Int) (b0 : Bool) (b1 b2 b3 b4 : Int) : γ := let t1 := bif a0 then true else b0; r14_both.c0 k a0 a1 a2 a3 a4 b0 b1 b2 b3 b4 t1
def r14_both (a0 : Bool) (a1 a2 a3 a4 : Int) (b0 : Bool) (b1 b2 b3 b4 : Int) : N11 := r14_both.c id a0 a1 a2 a3 a4 b0 b1 b2 b3 b4
def v11 (q : N11) : Value := .tuple #[.agg #[.bool q.1, .int .i64 q.2.1, .int .i64 q.2.2.1, .int .u64 q.2.2.2.1, .int .u64 q.2.2.2.2.1], .agg #[.bool q.2.2.2.2.2.1, .int .i64 q.2.2.2.2.2.2.1, .int .i64 q.2.2.2.2.2.2.2.1, .int .u64 q.2.2.2.2.2.2.2.2.1, .int .u64 q.2.2.2.2.2.2.2.2.2.1], .int .i64 q.2.2.2.2.2.2.2.2.2.2]
def r14_both.F : FV := mkF (cP cN (cP cN cU)) (fun _ => true) (fun | ((a0, a1, a2, a3, a4, ()), (b0, b1, b2, b3, b4, ()), ()) => v11 (r14_both a0 a1 a2 a3 a4 b0 b1 b2 b3 b4))
def L_r14_both : TL := (98, r14_both.F) :: L_r14_one
theorem r14_both.p0 {γ : Type} (k : N11 → γ) (a0 a1 a2 a3 a4 b0 b1 b2 b3 b4 t1) : r14_both.c0 k a0 a1 a2 a3 a4 b0 b1 b2 b3 b4 t1 = k (r14_both.c0 id a0 a1 a2 a3 a4 b0 b1 b2 b3 b4 t1) := by
  unfold r14_both.c0; (repeat' (first | (apply pc k) | (exact rfl)))
theorem r14_both.p {γ : Type} (k : N11 → γ) (a0 : Bool) (a1 a2 a3 a4 : Int) (b0 : Bool) (b1 b2 b3 b4 : Int) : r14_both.c k a0 a1 a2 a3 a4 b0 b1 b2 b3 b4 = k (r14_both a0 a1 a2 a3 a4 b0 b1 b2 b3 b4) := by
  unfold r14_both r14_both.c; apply r14_both.p0
theorem r14_both.r (a0 : Bool) (a1 a2 a3 a4 : Int) (b0 : Bool) (b1 b2 b3 b4 : Int) : runF P G (tab L_r14_one) { merge := true, glue := true } 60 Tryz.f98 [wN a0 a1 a2 a3 a4, wN b0 b1 b2 b3 b4] = r14_both.c (fun q => some (v11 q)) a0 a1 a2 a3 a4 b0 b1 b2 b3 b4 := by kernel_rfl
theorem r14_both.t : TabOK P G (tab L_r14_both) :=
  TabOK_mkL C r14_one.t Tryz.func98 (by kernel_rfl) { merge := true, glue := true } (fun c _ => LoopsOK_nil c) 60 (by
    rintro ⟨⟨a0, a1, a2, a3, a4, ⟨⟩⟩, ⟨b0, b1, b2, b3, b4, ⟨⟩⟩, ⟨⟩⟩ h
    exact (r14_both.r a0 a1 a2 a3 a4 b0 b1 b2 b3 b4).trans (r14_both.p (fun q => some (.tuple #[.agg #[.bool (q).1, .int .i64 (q).2.1, .int .i64 (q).2.2.1, .int .u64 (q).2.2.2.1, .int .u64 (q).2.2.2.2.1], .agg #[.bool (q).2.2.2.2.2.1, .int .i64 (q).2.2.2.2.2.2.1, .int .i64 (q).2.2.2.2.2.2.2.1, .int .u64 (q).2.2.2.2.2.2.2.2.1, .int .u64 (q).2.2.2.2.2.2.2.2.2.1], .int .i64 (q).2.2.2.2.2.2.2.2.2.2] : Value)) a0 a1 a2 a3 a4 b0 b1 b2 b3 b4))
def r14_made.c0 {γ : Type} (n : γ) (k : N5 → γ) (a : Int) (b0 : Bool) (b1 b2 b3 b4 : Int) (c0 : Bool) (c1 c2 c3 c4 : Int) (t1 : Bool) (t2 : Bool × Int × Int × Int × Int × Int) : γ := bif t1
then k (t2.1, t2.2.1, t2.2.2.1, t2.2.2.2.1, t2.2.2.2.2.1)
else n
def r14_made.c {γ : Type} (n : γ) (k : N5 → γ) (a : Int) (b0 : Bool) (b1 b2 b3 b4 : Int) (c0 : Bool) (c1 c2 c3 c4 : Int) : γ := let t1 := nref_Apply.ok a b0 b1 b2 b3 b4 c0 c1 c2 c3 c4; let t2 := nref_Apply a b0 b1 b2 b3 b4 c0 c1 c2 c3 c4; r14_made.c0 n k a b0 b1 b2 b3 b4 c0 c1 c2 c3 c4 t1 t2
def r14_made.ok (a : Int) (b0 : Bool) (b1 b2 b3 b4 : Int) (c0 : Bool) (c1 c2 c3 c4 : Int) : Bool := r14_made.c false (fun _ => true) a b0 b1 b2 b3 b4 c0 c1 c2 c3 c4
def r14_made (a : Int) (b0 : Bool) (b1 b2 b3 b4 : Int) (c0 : Bool) (c1 c2 c3 c4 : Int) : N5 := r14_made.c (false, 0, 0, 0, 0) id a b0 b1 b2 b3 b4 c0 c1 c2 c3 c4
def r14_made.F : FV := mkF (cP (cI .i64) (cP cN (cP cN cU))) (fun | (a, (b0, b1, b2, b3, b4, ()), (c0, c1, c2, c3, c4, ()), ()) => r14_made.ok a b0 b1 b2 b3 b4 c0 c1 c2 c3 c4) (fun | (a, (b0, b1, b2, b3, b4, ()), (c0, c1, c2, c3, c4, ()), ()) => v9 (r14_made a b0 b1 b2 b3 b4 c0 c1 c2 c3 c4))
def L_r14_made : TL := (99, r14_made.F) :: L_r14_both
theorem r14_made.p0 {γ : Type} (k : N5 → γ) (a b0 b1 b2 b3 b4 c0 c1 c2 c3 c4 t1 t2) : r14_made.c0 false (fun _ => true) a b0 b1 b2 b3 b4 c0 c1 c2 c3 c4 t1 t2 = true → r14_made.c0 none (fun q => some (k q)) a b0 b1 b2 b3 b4 c0 c1 c2 c3 c4 t1 t2 = some (k (r14_made.c0 (false, 0, 0, 0, 0) id a b0 b1 b2 b3 b4 c0 c1 c2 c3 c4 t1 t2)) := by
  unfold r14_made.c0; (repeat' (first | (apply pn k) | (exact pn_none _ _) | (exact pn_leaf k _)))
theorem r14_made.p {γ : Type} (k : N5 → γ) (a : Int) (b0 : Bool) (b1 b2 b3 b4 : Int) (c0 : Bool) (c1 c2 c3 c4 : Int) (h : r14_made.ok a b0 b1 b2 b3 b4 c0 c1 c2 c3 c4 = true) : r14_made.c none (fun q => some (k q)) a b0 b1 b2 b3 b4 c0 c1 c2 c3 c4 = some (k (r14_made a b0 b1 b2 b3 b4 c0 c1 c2 c3 c4)) := by
  revert h; unfold r14_made.ok r14_made r14_made.c; apply r14_made.p0
theorem r14_made.r (a : Int) (b0 : Bool) (b1 b2 b3 b4 : Int) (c0 : Bool) (c1 c2 c3 c4 : Int) : runF P G (tab L_r14_both) { merge := true, glue := true } 60 Tryz.f99 [.int .i64 a, wN b0 b1 b2 b3 b4, wN c0 c1 c2 c3 c4] = r14_made.c none (fun q => some (v9 q)) a b0 b1 b2 b3 b4 c0 c1 c2 c3 c4 := by kernel_rfl
theorem r14_made.t : TabOK P G (tab L_r14_made) :=
  TabOK_mkL C r14_both.t Tryz.func99 (by kernel_rfl) { merge := true, glue := true } (fun c _ => LoopsOK_nil c) 60 (by
    rintro ⟨a, ⟨b0, b1, b2, b3, b4, ⟨⟩⟩, ⟨c0, c1, c2, c3, c4, ⟨⟩⟩, ⟨⟩⟩ h
    exact (r14_made.r a b0 b1 b2 b3 b4 c0 c1 c2 c3 c4).trans (r14_made.p v9 a b0 b1 b2 b3 b4 c0 c1 c2 c3 c4 h))
def r14_opposite.val (q : Int) : Value := .int .i64 (q)
def r14_opposite.h : List (Nat × List Nat × Nat) := [(3, [0, 3, 4, 5], 0)]
def r14_opposite.e0 (q : Int × Int × Int × Int) : St := { tmps := [.val (.int .i64 (q).1), .unk, .unk, .val (.int .u64 (q).2.1), .val (.int .u64 (q).2.2.1), .val (.int .i64 (q).2.2.2), .unk, .unk, .unk, .unk, .unk, .unk, .unk, .unk, .unk, .unk, .unk, .unk, .unk, .unk, .unk, .unk, .unk, .unk, .unk, .unk, .unk, .unk, .unk, .unk, .unk], blks := [], saved := [] }
noncomputable def r14_opposite.B0 : Code := loopAt [1, 1, 0, 1, 0] (fbody Tryz.f243)
noncomputable def r14_opposite.H (F0 : LSum) : Heads := { heads := r14_opposite.h, merge := true, sums := [(3, F0)] }
noncomputable def r14_opposite.H0  : Heads := { heads := r14_opposite.h, merge := true, sums := [] }
noncomputable def r14_opposite.K0 (F0 : LSum) : Xt → St → Option Value := kAt P G (tab L_r14_made) (r14_opposite.H F0) [1, 1, 0, 1, 0] 60 (fbody Tryz.f243) (retK P G Tryz.f243)
def r14_opposite.l0.c0 {γ : Type} (k0 : Int × Int × Int × Int → Option γ) (k : Int → Option γ) (s0 s3 s4 s5 t1 : Int) (t2 : Bool) (t3 t4 t5 t6 t7 t8 t9 t10 : Int) : Option γ := bif decide (s5 < 64)
then bif !decide (s5 < 0)
then bif !decide (s5 < 0) && true && (!decide (s5 < 0) && true) && true || t2
then k0 (s0, t4, t8, t9)
else none
else none
else k (t10)
def r14_opposite.l0.c {γ : Type} (k0 : Int × Int × Int × Int → Option γ) (k : Int → Option γ) (s0 s3 s4 s5 : Int) : Option γ := let t1 := bif s5 == 0 then 1 else 0; let t2 := bif (s4.fdiv (2 ^ min s5.toNat IntKind.u64.bits)).tmod 2 != t1 then !decide (s5 < 0) && true && (!decide (s5 < 0) && true) else true; let t3 := IntKind.u64.wrap (1 * 2 ^ min s5.toNat IntKind.u64.bits); let t4 := bif (s4.fdiv (2 ^ min s5.toNat IntKind.u64.bits)).tmod 2 != t1 then orI IntKind.u64 s3 t3 else s3; let t5 := IntKind.u64.wrap s0; let t6 := IntKind.u64.wrap (t5 * 2 ^ min s5.toNat IntKind.u64.bits); let t7 := IntKind.u64.wrap (s4 + t6); let t8 := bif (s4.fdiv (2 ^ min s5.toNat IntKind.u64.bits)).tmod 2 != t1 then t7 else s4; let t9 := IntKind.i64.wrap (s5 + 1); let t10 := IntKind.i64.wrap s3; r14_opposite.l0.c0 k0 k s0 s3 s4 s5 t1 t2 t3 t4 t5 t6 t7 t8 t9 t10
def r14_opposite.c {γ : Type} (k0 : Int × Int × Int × Int → Option γ) (k : Int → Option γ) (a : Int) : Option γ := k0 (a, 0, 0, 0)
def r14_opposite.L0 (N : Nat)  : Nat → Int × Int × Int × Int → Option (Int)
  | 0, _ => none
  | m + 1, q => r14_opposite.l0.c (r14_opposite.L0 N m) some (q).1 (q).2.1 (q).2.2.1 (q).2.2.2
def r14_opposite.o (N : Nat) (a : Int) : Option (Int) := r14_opposite.c (r14_opposite.L0 N  N) some a
noncomputable def r14_opposite.S0 (N : Nat) : LSum := sumN P G (tab L_r14_made) (r14_opposite.H0 ) 60 r14_opposite.B0 N
theorem r14_opposite.l0.p0 {γ δ : Type} (f : γ → δ) (k0 : Int × Int × Int × Int → Option γ) (k : Int → Option γ) (s0 s3 s4 s5 t1 t2 t3 t4 t5 t6 t7 t8 t9 t10) : r14_opposite.l0.c0 (fun q => (k0 q).map f) (fun q => (k q).map f) s0 s3 s4 s5 t1 t2 t3 t4 t5 t6 t7 t8 t9 t10 = (r14_opposite.l0.c0 k0 k s0 s3 s4 s5 t1 t2 t3 t4 t5 t6 t7 t8 t9 t10).map f := by
  unfold r14_opposite.l0.c0; (repeat' (first | (apply pm f) | (exact rfl)))
theorem r14_opposite.l0.p {γ δ : Type} (f : γ → δ) (k0 : Int × Int × Int × Int → Option γ) (k : Int → Option γ) (s0 s3 s4 s5 : Int) : r14_opposite.l0.c (fun q => (k0 q).map f) (fun q => (k q).map f) s0 s3 s4 s5 = (r14_opposite.l0.c k0 k s0 s3 s4 s5).map f := by
  unfold r14_opposite.l0.c; apply r14_opposite.l0.p0
theorem r14_opposite.p {γ δ : Type} (f : γ → δ) (k0 : Int × Int × Int × Int → Option γ) (k : Int → Option γ) (a : Int) : r14_opposite.c (fun q => (k0 q).map f) (fun q => (k q).map f) a = (r14_opposite.c k0 k a).map f := by
  unfold r14_opposite.c; (repeat' (first | (apply pm f) | (exact rfl)))
theorem r14_opposite.S0.ok (N : Nat) : LoopsOK P G (r14_opposite.H0 ).sums r14_opposite.B0 := by
  refine LoopsOK_code fun i hi F hF => ?_
  have hlen : (loopsOf r14_opposite.B0).length = 0 := by kernel_rfl
  rw [hlen] at hi
  omega
theorem r14_opposite.S0.snd (N : Nat) : SoundL P G r14_opposite.B0 (r14_opposite.S0 N) := sumN_sound C.mixed C.names r14_made.t (r14_opposite.S0.ok N) N
theorem r14_opposite.l0.r (F0 G0 : LSum) (s0 s3 s4 s5 : Int) : ex P G (tab L_r14_made) (r14_opposite.H0 ) 60 r14_opposite.B0 (r14_opposite.e0 (s0, s3, s4, s5)) (roundK (r14_opposite.H0 ) r14_opposite.B0 G0 (r14_opposite.K0 F0)) = r14_opposite.l0.c (fun q => G0.run (r14_opposite.e0 q) (r14_opposite.K0 F0)) (fun q => some (r14_opposite.val q)) s0 s3 s4 s5 := by kernel_rfl
theorem r14_opposite.r (F0 : LSum) (a : Int) : runF P G (tab L_r14_made) (r14_opposite.H F0) 60 Tryz.f243 [.int .i64 a] = r14_opposite.c (fun q => F0.run (r14_opposite.e0 q) (r14_opposite.K0 F0)) (fun q => some (r14_opposite.val q)) a := by kernel_rfl
theorem r14_opposite.L0.ok (N : Nat) (F0 : LSum)   : ∀ m q, (sumN P G (tab L_r14_made) (r14_opposite.H0 ) 60 r14_opposite.B0 m).run (r14_opposite.e0 q) (r14_opposite.K0 F0) = (r14_opposite.L0 N  m q).map r14_opposite.val
  | 0, q => rfl
  | m + 1, q => by
    have ih := r14_opposite.L0.ok N F0   m
    refine (sumN_run (n := m) rfl).trans ((r14_opposite.l0.r F0 (sumN P G (tab L_r14_made) (r14_opposite.H0 ) 60 r14_opposite.B0 m) (q).1 (q).2.1 (q).2.2.1 (q).2.2.2).trans ?_)
    refine Eq.trans ?_ (r14_opposite.l0.p r14_opposite.val (r14_opposite.L0 N m) some (q).1 (q).2.1 (q).2.2.1 (q).2.2.2)
    have e0 : (fun q => (sumN P G (tab L_r14_made) (r14_opposite.H0 ) 60 r14_opposite.B0 m).run (r14_opposite.e0 q) (r14_opposite.K0 F0)) = (fun q => ((r14_opposite.L0 N m) q).map r14_opposite.val) := funext ih
    rw [e0]; rfl
theorem r14_opposite.q (N : Nat) (a : Int) : runF P G (tab L_r14_made) (r14_opposite.H (r14_opposite.S0 N)) 60 Tryz.f243 [.int .i64 a] = (r14_opposite.o N a).map r14_opposite.val := by
  have hk0 := r14_opposite.L0.ok N (r14_opposite.S0 N)   N
  refine (r14_opposite.r (r14_opposite.S0 N) a).trans ?_
  refine Eq.trans ?_ (r14_opposite.p r14_opposite.val (r14_opposite.L0 N  N) some a)
  have e0 : (fun q => (r14_opposite.S0 N).run (r14_opposite.e0 q) (r14_opposite.K0 (r14_opposite.S0 N))) = (fun q => ((r14_opposite.L0 N  N) q).map r14_opposite.val) := funext hk0
  rw [e0]; rfl
theorem r14_opposite.lok (N : Nat) : LoopsOK P G (r14_opposite.H (r14_opposite.S0 N)).sums (fbody Tryz.f243) := by
  refine LoopsOK_code fun i hi F hF => ?_
  have hlen : (loopsOf (fbody Tryz.f243)).length = 1 := by kernel_rfl
  rw [hlen] at hi
  match i, hi with
  | 0, _ => exact soundAt (B' := r14_opposite.B0) (by kernel_rfl) (by kernel_rfl) (r14_opposite.S0.snd N) hF
  | _ + 1, h => omega
def r14_opposite (a : Int) : Int := hide ((r14_opposite.o (67) a).getD (0))
def r14_opposite.g (a : Int) : Bool := hide (r14_opposite.o (67) a).isSome
theorem r14_opposite.s (a : Int) (h : r14_opposite.g a = true) : r14_opposite.o (67) a = some (r14_opposite a) := by
  unfold r14_opposite.g at h; unfold r14_opposite; simp only [hide_eq] at h ⊢; revert h; cases r14_opposite.o (67) a <;> simp
def r14_opposite.F : FV := mkF (cP (cI .i64) cU) (fun | (a, ()) => r14_opposite.g a) (fun | (a, ()) => r14_opposite.val (r14_opposite a))
def L_r14_opposite : TL := (243, r14_opposite.F) :: L_r14_made
theorem r14_opposite.t : TabOK P G (tab L_r14_opposite) :=
  TabOK_mkH C r14_made.t Tryz.func243 (by kernel_rfl) (fun | (_, ()) => r14_opposite.H (r14_opposite.S0 (67))) (by rintro ⟨a, ⟨⟩⟩; exact r14_opposite.lok _) 60 (by
    rintro ⟨a, ⟨⟩⟩ h
    exact (r14_opposite.q (67) a).trans (congrArg (Option.map r14_opposite.val) (r14_opposite.s a h)))
def r14_factor.c0 {γ : Type} (n : γ) (k : N5 → γ) (a0 : Bool) (a1 a2 a3 a4 : Int) (b0 : Bool) (b1 b2 b3 b4 : Int) (c0 : Bool) (c1 c2 c3 c4 : Int) (d t1 t2 t3 : Bool) (t4 : Int) (t5 : N5) (t6 : Bool) (t7 : N5) (t8 t9 t10 t11 t12 : Bool) (t13 t14 : N5) (t15 : Bool) (t16 : N5) (t17 : Bool) (t18 : N5) : γ := bif t2
then bif t3
then bif t6
then bif t8
then bif (t9 || !(!d && true)) && true
then bif t11
then bif t12
then bif t15
then k (t16.1, t16.2.1, t16.2.2.1, t16.2.2.2.1, t16.2.2.2.2)
else n
else n
else k (t13.1, t13.2.1, t13.2.2.1, t13.2.2.2.1, t13.2.2.2.2)
else n
else n
else n
else n
else bif (t9 || !(!d && true)) && true
then bif t11
then bif t12
then bif t17
then k (t18.1, t18.2.1, t18.2.2.1, t18.2.2.2.1, t18.2.2.2.2)
else n
else n
else k (a0, a1, a2, a3, a4)
else n
def r14_factor.c {γ : Type} (n : γ) (k : N5 → γ) (a0 : Bool) (a1 a2 a3 a4 : Int) (b0 : Bool) (b1 b2 b3 b4 : Int) (c0 : Bool) (c1 c2 c3 c4 : Int) (d : Bool) : γ := let t1 := r14_one b0 b1 b2 b3 b4; let t2 := bif t1 then b1.tmod 2 != 0 else false; let t3 := r14_opposite.g b1; let t4 := r14_opposite b1; let t5 := nref_Const t4; let t6 := r14_made.ok 5 c0 c1 c2 c3 c4 t5.1 t5.2.1 t5.2.2.1 t5.2.2.2.1 t5.2.2.2.2; let t7 := r14_made 5 c0 c1 c2 c3 c4 t5.1 t5.2.1 t5.2.2.1 t5.2.2.2.1 t5.2.2.2.2; let t8 := nref_Meet.ok a0 a1 a2 a3 a4 t7.1 t7.2.1 t7.2.2.1 t7.2.2.2.1 t7.2.2.2.2; let t9 := nref_Has.ok b0 b1 b2 b3 b4 0; let t10 := nref_Has b0 b1 b2 b3 b4 0; let t11 := bif !d then !t10 else false; let t12 := r14_made.ok 6 c0 c1 c2 c3 c4 b0 b1 b2 b3 b4; let t13 := nref_Meet a0 a1 a2 a3 a4 t7.1 t7.2.1 t7.2.2.1 t7.2.2.2.1 t7.2.2.2.2; let t14 := r14_made 6 c0 c1 c2 c3 c4 b0 b1 b2 b3 b4; let t15 := nref_Meet.ok t13.1 t13.2.1 t13.2.2.1 t13.2.2.2.1 t13.2.2.2.2 t14.1 t14.2.1 t14.2.2.1 t14.2.2.2.1 t14.2.2.2.2; let t16 := nref_Meet t13.1 t13.2.1 t13.2.2.1 t13.2.2.2.1 t13.2.2.2.2 t14.1 t14.2.1 t14.2.2.1 t14.2.2.2.1 t14.2.2.2.2; let t17 := nref_Meet.ok a0 a1 a2 a3 a4 t14.1 t14.2.1 t14.2.2.1 t14.2.2.2.1 t14.2.2.2.2; let t18 := nref_Meet a0 a1 a2 a3 a4 t14.1 t14.2.1 t14.2.2.1 t14.2.2.2.1 t14.2.2.2.2; r14_factor.c0 n k a0 a1 a2 a3 a4 b0 b1 b2 b3 b4 c0 c1 c2 c3 c4 d t1 t2 t3 t4 t5 t6 t7 t8 t9 t10 t11 t12 t13 t14 t15 t16 t17 t18
def r14_factor.ok (a0 : Bool) (a1 a2 a3 a4 : Int) (b0 : Bool) (b1 b2 b3 b4 : Int) (c0 : Bool) (c1 c2 c3 c4 : Int) (d : Bool) : Bool := r14_factor.c false (fun _ => true) a0 a1 a2 a3 a4 b0 b1 b2 b3 b4 c0 c1 c2 c3 c4 d
def r14_factor (a0 : Bool) (a1 a2 a3 a4 : Int) (b0 : Bool) (b1 b2 b3 b4 : Int) (c0 : Bool) (c1 c2 c3 c4 : Int) (d : Bool) : N5 := r14_factor.c (false, 0, 0, 0, 0) id a0 a1 a2 a3 a4 b0 b1 b2 b3 b4 c0 c1 c2 c3 c4 d
def r14_factor.F : FV := mkF (cP cN (cP cN (cP cN (cP cB cU)))) (fun | ((a0, a1, a2, a3, a4, ()), (b0, b1, b2, b3, b4, ()), (c0, c1, c2, c3, c4, ()), d, ()) => r14_factor.ok a0 a1 a2 a3 a4 b0 b1 b2 b3 b4 c0 c1 c2 c3 c4 d) (fun | ((a0, a1, a2, a3, a4, ()), (b0, b1, b2, b3, b4, ()), (c0, c1, c2, c3, c4, ()), d, ()) => v9 (r14_factor a0 a1 a2 a3 a4 b0 b1 b2 b3 b4 c0 c1 c2 c3 c4 d))
def L_r14_factor : TL := (183, r14_factor.F) :: L_r14_opposite
theorem r14_factor.p0 {γ : Type} (k : N5 → γ) (a0 a1 a2 a3 a4 b0 b1 b2 b3 b4 c0 c1 c2 c3 c4 d t1 t2 t3 t4 t5 t6 t7 t8 t9 t10 t11 t12 t13 t14 t15 t16 t17 t18) : r14_factor.c0 false (fun _ => true) a0 a1 a2 a3 a4 b0 b1 b2 b3 b4 c0 c1 c2 c3 c4 d t1 t2 t3 t4 t5 t6 t7 t8 t9 t10 t11 t12 t13 t14 t15 t16 t17 t18 = true → r14_factor.c0 none (fun q => some (k q)) a0 a1 a2 a3 a4 b0 b1 b2 b3 b4 c0 c1 c2 c3 c4 d t1 t2 t3 t4 t5 t6 t7 t8 t9 t10 t11 t12 t13 t14 t15 t16 t17 t18 = some (k (r14_factor.c0 (false, 0, 0, 0, 0) id a0 a1 a2 a3 a4 b0 b1 b2 b3 b4 c0 c1 c2 c3 c4 d t1 t2 t3 t4 t5 t6 t7 t8 t9 t10 t11 t12 t13 t14 t15 t16 t17 t18)) := by
  unfold r14_factor.c0; (repeat' (first | (apply pn k) | (exact pn_none _ _) | (exact pn_leaf k _)))
theorem r14_factor.p {γ : Type} (k : N5 → γ) (a0 : Bool) (a1 a2 a3 a4 : Int) (b0 : Bool) (b1 b2 b3 b4 : Int) (c0 : Bool) (c1 c2 c3 c4 : Int) (d : Bool) (h : r14_factor.ok a0 a1 a2 a3 a4 b0 b1 b2 b3 b4 c0 c1 c2 c3 c4 d = true) : r14_factor.c none (fun q => some (k q)) a0 a1 a2 a3 a4 b0 b1 b2 b3 b4 c0 c1 c2 c3 c4 d = some (k (r14_factor a0 a1 a2 a3 a4 b0 b1 b2 b3 b4 c0 c1 c2 c3 c4 d)) := by
  revert h; unfold r14_factor.ok r14_factor r14_factor.c; apply r14_factor.p0
theorem r14_factor.r (a0 : Bool) (a1 a2 a3 a4 : Int) (b0 : Bool) (b1 b2 b3 b4 : Int) (c0 : Bool) (c1 c2 c3 c4 : Int) (d : Bool) : runF P G (tab L_r14_opposite) { merge := true, glue := true } 60 Tryz.f183 [wN a0 a1 a2 a3 a4, wN b0 b1 b2 b3 b4, wN c0 c1 c2 c3 c4, .bool d] = r14_factor.c none (fun q => some (v9 q)) a0 a1 a2 a3 a4 b0 b1 b2 b3 b4 c0 c1 c2 c3 c4 d := by kernel_rfl
theorem r14_factor.t : TabOK P G (tab L_r14_factor) :=
  TabOK_mkL C r14_opposite.t Tryz.func183 (by kernel_rfl) { merge := true, glue := true } (fun c _ => LoopsOK_nil c) 60 (by
    rintro ⟨⟨a0, a1, a2, a3, a4, ⟨⟩⟩, ⟨b0, b1, b2, b3, b4, ⟨⟩⟩, ⟨c0, c1, c2, c3, c4, ⟨⟩⟩, d, ⟨⟩⟩ h
    exact (r14_factor.r a0 a1 a2 a3 a4 b0 b1 b2 b3 b4 c0 c1 c2 c3 c4 d).trans (r14_factor.p v9 a0 a1 a2 a3 a4 b0 b1 b2 b3 b4 c0 c1 c2 c3 c4 d h))
def r14_times.c0 {γ : Type} (n : γ) (k : N11 → γ) (a0 : Bool) (a1 a2 a3 a4 : Int) (b0 : Bool) (b1 b2 b3 b4 : Int) (c0 : Bool) (c1 c2 c3 c4 : Int) (t1 t2 t3 t4 t5 : Bool) (t6 : N5) (t7 : Bool) (t8 : N5) (t9 t10 : Bool) (t11 t12 t13 t14 t15 t16 t17 t18 : Int) (t19 : N11) (t20 t21 : Bool) (t22 : Int × Int) (t23 t24 : Bool) (t25 : Int × Int) (t26 t27 t28 : Bool) (t29 : Int × Int) (t30 t31 : Bool) (t32 : Int × Int) (t33 t34 t35 t36 : Bool) (t37 t38 : N5) (t39 : N11) : γ := bif t1
then bif t2 && true && (t3 && true) && true || t5
then bif t10
then k (t19.1, t19.2.1, t19.2.2.1, t19.2.2.2.1, t19.2.2.2.2.1, t19.2.2.2.2.2.1, t19.2.2.2.2.2.2.1, t19.2.2.2.2.2.2.2.1, t19.2.2.2.2.2.2.2.2.1, t19.2.2.2.2.2.2.2.2.2.1, t19.2.2.2.2.2.2.2.2.2.2)
else bif (t20 || !(!false && true)) && true
then bif (t21 || !(!!t23 && true)) && true
then bif (t24 || !(!t27 && true)) && true
then bif (t28 || !(!t31 && true)) && true
then bif t35
then bif t36
then k (t39.1, t39.2.1, t39.2.2.1, t39.2.2.2.1, t39.2.2.2.2.1, t39.2.2.2.2.2.1, t39.2.2.2.2.2.2.1, t39.2.2.2.2.2.2.2.1, t39.2.2.2.2.2.2.2.2.1, t39.2.2.2.2.2.2.2.2.2.1, t39.2.2.2.2.2.2.2.2.2.2)
else n
else n
else n
else n
else n
else n
else n
else n
def r14_times.c {γ : Type} (n : γ) (k : N11 → γ) (a0 : Bool) (a1 a2 a3 a4 : Int) (b0 : Bool) (b1 b2 b3 b4 : Int) (c0 : Bool) (c1 c2 c3 c4 : Int) : γ := let t1 := nref_Has.ok c0 c1 c2 c3 c4 0; let t2 := nref_NonZero.ok a0 a1 a2 a3 a4; let t3 := nref_NonZero.ok b0 b1 b2 b3 b4; let t4 := nref_Has c0 c1 c2 c3 c4 0; let t5 := bif !t4 then t2 && true && (t3 && true) else true; let t6 := nref_NonZero a0 a1 a2 a3 a4; let t7 := bif !t4 then t6.1 else a0; let t8 := nref_NonZero b0 b1 b2 b3 b4; let t9 := bif !t4 then t8.1 else b0; let t10 := bif t7 then true else t9; let t11 := bif !t4 then t6.2.1 else a1; let t12 := bif !t4 then t6.2.2.1 else a2; let t13 := bif !t4 then t6.2.2.2.1 else a3; let t14 := bif !t4 then t6.2.2.2.2 else a4; let t15 := bif !t4 then t8.2.1 else b1; let t16 := bif !t4 then t8.2.2.1 else b2; let t17 := bif !t4 then t8.2.2.2.1 else b3; let t18 := bif !t4 then t8.2.2.2.2 else b4; let t19 := r14_both t7 t11 t12 t13 t14 t9 t15 t16 t17 t18; let t20 := r14_product.ok t11 t15; let t21 := r14_product.ok t11 t16; let t22 := r14_product t11 t15; let t23 := r14_small t22.1 t22.2; let t24 := r14_product.ok t12 t15; let t25 := r14_product t11 t16; let t26 := r14_small t25.1 t25.2; let t27 := bif !t23 then true else !t26; let t28 := r14_product.ok t12 t16; let t29 := r14_product t12 t15; let t30 := r14_small t29.1 t29.2; let t31 := bif t27 then true else !t30; let t32 := r14_product t12 t16; let t33 := r14_small t32.1 t32.2; let t34 := bif t31 then true else !t33; let t35 := r14_factor.ok t7 t11 t12 t13 t14 t9 t15 t16 t17 t18 c0 c1 c2 c3 c4 t34; let t36 := r14_factor.ok t9 t15 t16 t17 t18 t7 t11 t12 t13 t14 c0 c1 c2 c3 c4 t34; let t37 := r14_factor t7 t11 t12 t13 t14 t9 t15 t16 t17 t18 c0 c1 c2 c3 c4 t34; let t38 := r14_factor t9 t15 t16 t17 t18 t7 t11 t12 t13 t14 c0 c1 c2 c3 c4 t34; let t39 := r14_both t37.1 t37.2.1 t37.2.2.1 t37.2.2.2.1 t37.2.2.2.2 t38.1 t38.2.1 t38.2.2.1 t38.2.2.2.1 t38.2.2.2.2; r14_times.c0 n k a0 a1 a2 a3 a4 b0 b1 b2 b3 b4 c0 c1 c2 c3 c4 t1 t2 t3 t4 t5 t6 t7 t8 t9 t10 t11 t12 t13 t14 t15 t16 t17 t18 t19 t20 t21 t22 t23 t24 t25 t26 t27 t28 t29 t30 t31 t32 t33 t34 t35 t36 t37 t38 t39
def r14_times.ok (a0 : Bool) (a1 a2 a3 a4 : Int) (b0 : Bool) (b1 b2 b3 b4 : Int) (c0 : Bool) (c1 c2 c3 c4 : Int) : Bool := r14_times.c false (fun _ => true) a0 a1 a2 a3 a4 b0 b1 b2 b3 b4 c0 c1 c2 c3 c4
def r14_times (a0 : Bool) (a1 a2 a3 a4 : Int) (b0 : Bool) (b1 b2 b3 b4 : Int) (c0 : Bool) (c1 c2 c3 c4 : Int) : N11 := r14_times.c (false, 0, 0, 0, 0, false, 0, 0, 0, 0, 0) id a0 a1 a2 a3 a4 b0 b1 b2 b3 b4 c0 c1 c2 c3 c4
def r14_times.F : FV := mkF (cP cN (cP cN (cP cN cU))) (fun | ((a0, a1, a2, a3, a4, ()), (b0, b1, b2, b3, b4, ()), (c0, c1, c2, c3, c4, ()), ()) => r14_times.ok a0 a1 a2 a3 a4 b0 b1 b2 b3 b4 c0 c1 c2 c3 c4) (fun | ((a0, a1, a2, a3, a4, ()), (b0, b1, b2, b3, b4, ()), (c0, c1, c2, c3, c4, ()), ()) => v11 (r14_times a0 a1 a2 a3 a4 b0 b1 b2 b3 b4 c0 c1 c2 c3 c4))
def L_r14_times : TL := (100, r14_times.F) :: L_r14_factor
theorem r14_times.p0 {γ : Type} (k : N11 → γ) (a0 a1 a2 a3 a4 b0 b1 b2 b3 b4 c0 c1 c2 c3 c4 t1 t2 t3 t4 t5 t6 t7 t8 t9 t10 t11 t12 t13 t14 t15 t16 t17 t18 t19 t20 t21 t22 t23 t24 t25 t26 t27 t28 t29 t30 t31 t32 t33 t34 t35 t36 t37 t38 t39) : r14_times.c0 false (fun _ => true) a0 a1 a2 a3 a4 b0 b1 b2 b3 b4 c0 c1 c2 c3 c4 t1 t2 t3 t4 t5 t6 t7 t8 t9 t10 t11 t12 t13 t14 t15 t16 t17 t18 t19 t20 t21 t22 t23 t24 t25 t26 t27 t28 t29 t30 t31 t32 t33 t34 t35 t36 t37 t38 t39 = true → r14_times.c0 none (fun q => some (k q)) a0 a1 a2 a3 a4 b0 b1 b2 b3 b4 c0 c1 c2 c3 c4 t1 t2 t3 t4 t5 t6 t7 t8 t9 t10 t11 t12 t13 t14 t15 t16 t17 t18 t19 t20 t21 t22 t23 t24 t25 t26 t27 t28 t29 t30 t31 t32 t33 t34 t35 t36 t37 t38 t39 = some (k (r14_times.c0 (false, 0, 0, 0, 0, false, 0, 0, 0, 0, 0) id a0 a1 a2 a3 a4 b0 b1 b2 b3 b4 c0 c1 c2 c3 c4 t1 t2 t3 t4 t5 t6 t7 t8 t9 t10 t11 t12 t13 t14 t15 t16 t17 t18 t19 t20 t21 t22 t23 t24 t25 t26 t27 t28 t29 t30 t31 t32 t33 t34 t35 t36 t37 t38 t39)) := by
  unfold r14_times.c0; (repeat' (first | (apply pn k) | (exact pn_none _ _) | (exact pn_leaf k _)))
theorem r14_times.p {γ : Type} (k : N11 → γ) (a0 : Bool) (a1 a2 a3 a4 : Int) (b0 : Bool) (b1 b2 b3 b4 : Int) (c0 : Bool) (c1 c2 c3 c4 : Int) (h : r14_times.ok a0 a1 a2 a3 a4 b0 b1 b2 b3 b4 c0 c1 c2 c3 c4 = true) : r14_times.c none (fun q => some (k q)) a0 a1 a2 a3 a4 b0 b1 b2 b3 b4 c0 c1 c2 c3 c4 = some (k (r14_times a0 a1 a2 a3 a4 b0 b1 b2 b3 b4 c0 c1 c2 c3 c4)) := by
  revert h; unfold r14_times.ok r14_times r14_times.c; apply r14_times.p0
theorem r14_times.r (a0 : Bool) (a1 a2 a3 a4 : Int) (b0 : Bool) (b1 b2 b3 b4 : Int) (c0 : Bool) (c1 c2 c3 c4 : Int) : runF P G (tab L_r14_factor) { merge := true, glue := true } 60 Tryz.f100 [wN a0 a1 a2 a3 a4, wN b0 b1 b2 b3 b4, wN c0 c1 c2 c3 c4] = r14_times.c none (fun q => some (v11 q)) a0 a1 a2 a3 a4 b0 b1 b2 b3 b4 c0 c1 c2 c3 c4 := by kernel_rfl
theorem r14_times.t : TabOK P G (tab L_r14_times) :=
  TabOK_mkL C r14_factor.t Tryz.func100 (by kernel_rfl) { merge := true, glue := true } (fun c _ => LoopsOK_nil c) 60 (by
    rintro ⟨⟨a0, a1, a2, a3, a4, ⟨⟩⟩, ⟨b0, b1, b2, b3, b4, ⟨⟩⟩, ⟨c0, c1, c2, c3, c4, ⟨⟩⟩, ⟨⟩⟩ h
    exact (r14_times.r a0 a1 a2 a3 a4 b0 b1 b2 b3 b4 c0 c1 c2 c3 c4).trans (r14_times.p v11 a0 a1 a2 a3 a4 b0 b1 b2 b3 b4 c0 c1 c2 c3 c4 h))
def r14_over.c0 {γ : Type} (n : γ) (k : N11 → γ) (a0 : Bool) (a1 a2 a3 a4 : Int) (b0 : Bool) (b1 b2 b3 b4 : Int) (c0 : Bool) (c1 c2 c3 c4 : Int) (t1 : Bool) (t2 : N5) (t3 : N11) (t4 t5 t6 t7 t8 t9 t10 t11 : Bool) (t12 : N11) (t13 t14 t15 t16 t17 t18 : Bool) (t19 t20 t21 t22 : Int × Int) (t23 : Bool) (t24 t25 : Int) (t26 : Bool) (t27 t28 : Int) (t29 : Bool) (t30 t31 : Int) (t32 : Bool) (t33 t34 t35 t36 t37 t38 : Int) (t39 : Int × Int) (t40 : Bool) (t41 t42 : Int) (t43 : Bool) (t44 t45 : Int) (t46 : Bool) (t47 t48 : Int) (t49 : Int × Int) (t50 : Bool) (t51 : N5) (t52 : Bool) (t53 : N5) (t54 : N11) : γ := bif t1
then bif t2.1
then k (t3.1, t3.2.1, t3.2.2.1, t3.2.2.2.1, t3.2.2.2.2.1, t3.2.2.2.2.2.1, t3.2.2.2.2.2.2.1, t3.2.2.2.2.2.2.2.1, t3.2.2.2.2.2.2.2.2.1, t3.2.2.2.2.2.2.2.2.2.1, t3.2.2.2.2.2.2.2.2.2.2)
else bif (t4 || !true) && ((t5 || !(t6 && true)) && ((t7 || !(t9 && true)) && true))
then bif t11
then k (t12.1, t12.2.1, t12.2.2.1, t12.2.2.2.1, t12.2.2.2.2.1, t12.2.2.2.2.2.1, t12.2.2.2.2.2.2.1, t12.2.2.2.2.2.2.2.1, t12.2.2.2.2.2.2.2.2.1, t12.2.2.2.2.2.2.2.2.2.1, t12.2.2.2.2.2.2.2.2.2.2)
else bif t13
then bif t13
then bif t13
then bif t14
then bif t15
then bif t16
then bif t17
then bif t18
then bif t50
then bif t52
then k (t54.1, t54.2.1, t54.2.2.1, t54.2.2.2.1, t54.2.2.2.2.1, t54.2.2.2.2.2.1, t54.2.2.2.2.2.2.1, t54.2.2.2.2.2.2.2.1, t54.2.2.2.2.2.2.2.2.1, t54.2.2.2.2.2.2.2.2.2.1, t54.2.2.2.2.2.2.2.2.2.2)
else n
else n
else n
else n
else n
else n
else n
else n
else n
else n
else n
else n
def r14_over.c {γ : Type} (n : γ) (k : N11 → γ) (a0 : Bool) (a1 a2 a3 a4 : Int) (b0 : Bool) (b1 b2 b3 b4 : Int) (c0 : Bool) (c1 c2 c3 c4 : Int) : γ := let t1 := nref_NonZero.ok b0 b1 b2 b3 b4; let t2 := nref_NonZero b0 b1 b2 b3 b4; let t3 := r14_both t2.1 t2.2.1 t2.2.2.1 t2.2.2.2.1 t2.2.2.2.2 t2.1 t2.2.1 t2.2.2.1 t2.2.2.2.1 t2.2.2.2.2; let t4 := nref_Has.ok a0 a1 a2 a3 a4 (-9223372036854775808); let t5 := nref_Has.ok t2.1 t2.2.1 t2.2.2.1 t2.2.2.2.1 t2.2.2.2.2 (-1); let t6 := nref_Has a0 a1 a2 a3 a4 (-9223372036854775808); let t7 := nref_Has.ok c0 c1 c2 c3 c4 (-9223372036854775808); let t8 := nref_Has t2.1 t2.2.1 t2.2.2.1 t2.2.2.2.1 t2.2.2.2.2 (-1); let t9 := bif t6 then t8 else false; let t10 := nref_Has c0 c1 c2 c3 c4 (-9223372036854775808); let t11 := bif t9 then t10 else false; let t12 := r14_both a0 a1 a2 a3 a4 t2.1 t2.2.1 t2.2.2.1 t2.2.2.2.1 t2.2.2.2.2; let t13 := r14_product.ok c1 t2.2.1; let t14 := r14_product.ok c1 t2.2.2.1; let t15 := r14_product.ok c2 t2.2.1; let t16 := r14_product.ok c2 t2.2.2.1; let t17 := w1_Abs.ok t2.2.1; let t18 := w1_Abs.ok t2.2.2.1; let t19 := r14_product c2 t2.2.2.1; let t20 := r14_product c2 t2.2.1; let t21 := r14_product c1 t2.2.2.1; let t22 := r14_product c1 t2.2.1; let t23 := r14_less t22.1 t22.2 t22.1 t22.2; let t24 := bif t23 then t22.1 else t22.1; let t25 := bif t23 then t22.2 else t22.2; let t26 := r14_less t21.1 t21.2 t24 t25; let t27 := bif t26 then t21.1 else t24; let t28 := bif t26 then t21.2 else t25; let t29 := r14_less t20.1 t20.2 t27 t28; let t30 := bif t29 then t20.1 else t27; let t31 := bif t29 then t20.2 else t28; let t32 := r14_less t19.1 t19.2 t30 t31; let t33 := bif t32 then t19.1 else t30; let t34 := bif t32 then t19.2 else t31; let t35 := w1_Abs t2.2.2.1; let t36 := w1_Abs t2.2.1; let t37 := if t35 > t36 then t35 else t36; let t38 := IntKind.u64.wrap (t37 - 1); let t39 := r14_minus t33 t34 t38; let t40 := r14_less t24 t25 t21.1 t21.2; let t41 := bif t40 then t21.1 else t24; let t42 := bif t40 then t21.2 else t25; let t43 := r14_less t41 t42 t20.1 t20.2; let t44 := bif t43 then t20.1 else t41; let t45 := bif t43 then t20.2 else t42; let t46 := r14_less t44 t45 t19.1 t19.2; let t47 := bif t46 then t19.1 else t44; let t48 := bif t46 then t19.2 else t45; let t49 := r14_plus t47 t48 t38; let t50 := r14_clipped.ok t39.1 t39.2 t49.1 t49.2; let t51 := r14_clipped t39.1 t39.2 t49.1 t49.2; let t52 := nref_Meet.ok a0 a1 a2 a3 a4 t51.1 t51.2.1 t51.2.2.1 t51.2.2.2.1 t51.2.2.2.2; let t53 := nref_Meet a0 a1 a2 a3 a4 t51.1 t51.2.1 t51.2.2.1 t51.2.2.2.1 t51.2.2.2.2; let t54 := r14_both t53.1 t53.2.1 t53.2.2.1 t53.2.2.2.1 t53.2.2.2.2 t2.1 t2.2.1 t2.2.2.1 t2.2.2.2.1 t2.2.2.2.2; r14_over.c0 n k a0 a1 a2 a3 a4 b0 b1 b2 b3 b4 c0 c1 c2 c3 c4 t1 t2 t3 t4 t5 t6 t7 t8 t9 t10 t11 t12 t13 t14 t15 t16 t17 t18 t19 t20 t21 t22 t23 t24 t25 t26 t27 t28 t29 t30 t31 t32 t33 t34 t35 t36 t37 t38 t39 t40 t41 t42 t43 t44 t45 t46 t47 t48 t49 t50 t51 t52 t53 t54
def r14_over.ok (a0 : Bool) (a1 a2 a3 a4 : Int) (b0 : Bool) (b1 b2 b3 b4 : Int) (c0 : Bool) (c1 c2 c3 c4 : Int) : Bool := r14_over.c false (fun _ => true) a0 a1 a2 a3 a4 b0 b1 b2 b3 b4 c0 c1 c2 c3 c4
def r14_over (a0 : Bool) (a1 a2 a3 a4 : Int) (b0 : Bool) (b1 b2 b3 b4 : Int) (c0 : Bool) (c1 c2 c3 c4 : Int) : N11 := r14_over.c (false, 0, 0, 0, 0, false, 0, 0, 0, 0, 0) id a0 a1 a2 a3 a4 b0 b1 b2 b3 b4 c0 c1 c2 c3 c4
def r14_over.F : FV := mkF (cP cN (cP cN (cP cN cU))) (fun | ((a0, a1, a2, a3, a4, ()), (b0, b1, b2, b3, b4, ()), (c0, c1, c2, c3, c4, ()), ()) => r14_over.ok a0 a1 a2 a3 a4 b0 b1 b2 b3 b4 c0 c1 c2 c3 c4) (fun | ((a0, a1, a2, a3, a4, ()), (b0, b1, b2, b3, b4, ()), (c0, c1, c2, c3, c4, ()), ()) => v11 (r14_over a0 a1 a2 a3 a4 b0 b1 b2 b3 b4 c0 c1 c2 c3 c4))
def L_r14_over : TL := (101, r14_over.F) :: L_r14_times
theorem r14_over.p0 {γ : Type} (k : N11 → γ) (a0 a1 a2 a3 a4 b0 b1 b2 b3 b4 c0 c1 c2 c3 c4 t1 t2 t3 t4 t5 t6 t7 t8 t9 t10 t11 t12 t13 t14 t15 t16 t17 t18 t19 t20 t21 t22 t23 t24 t25 t26 t27 t28 t29 t30 t31 t32 t33 t34 t35 t36 t37 t38 t39 t40 t41 t42 t43 t44 t45 t46 t47 t48 t49 t50 t51 t52 t53 t54) : r14_over.c0 false (fun _ => true) a0 a1 a2 a3 a4 b0 b1 b2 b3 b4 c0 c1 c2 c3 c4 t1 t2 t3 t4 t5 t6 t7 t8 t9 t10 t11 t12 t13 t14 t15 t16 t17 t18 t19 t20 t21 t22 t23 t24 t25 t26 t27 t28 t29 t30 t31 t32 t33 t34 t35 t36 t37 t38 t39 t40 t41 t42 t43 t44 t45 t46 t47 t48 t49 t50 t51 t52 t53 t54 = true → r14_over.c0 none (fun q => some (k q)) a0 a1 a2 a3 a4 b0 b1 b2 b3 b4 c0 c1 c2 c3 c4 t1 t2 t3 t4 t5 t6 t7 t8 t9 t10 t11 t12 t13 t14 t15 t16 t17 t18 t19 t20 t21 t22 t23 t24 t25 t26 t27 t28 t29 t30 t31 t32 t33 t34 t35 t36 t37 t38 t39 t40 t41 t42 t43 t44 t45 t46 t47 t48 t49 t50 t51 t52 t53 t54 = some (k (r14_over.c0 (false, 0, 0, 0, 0, false, 0, 0, 0, 0, 0) id a0 a1 a2 a3 a4 b0 b1 b2 b3 b4 c0 c1 c2 c3 c4 t1 t2 t3 t4 t5 t6 t7 t8 t9 t10 t11 t12 t13 t14 t15 t16 t17 t18 t19 t20 t21 t22 t23 t24 t25 t26 t27 t28 t29 t30 t31 t32 t33 t34 t35 t36 t37 t38 t39 t40 t41 t42 t43 t44 t45 t46 t47 t48 t49 t50 t51 t52 t53 t54)) := by
  unfold r14_over.c0; (repeat' (first | (apply pn k) | (exact pn_none _ _) | (exact pn_leaf k _)))
theorem r14_over.p {γ : Type} (k : N11 → γ) (a0 : Bool) (a1 a2 a3 a4 : Int) (b0 : Bool) (b1 b2 b3 b4 : Int) (c0 : Bool) (c1 c2 c3 c4 : Int) (h : r14_over.ok a0 a1 a2 a3 a4 b0 b1 b2 b3 b4 c0 c1 c2 c3 c4 = true) : r14_over.c none (fun q => some (k q)) a0 a1 a2 a3 a4 b0 b1 b2 b3 b4 c0 c1 c2 c3 c4 = some (k (r14_over a0 a1 a2 a3 a4 b0 b1 b2 b3 b4 c0 c1 c2 c3 c4)) := by
  revert h; unfold r14_over.ok r14_over r14_over.c; apply r14_over.p0
theorem r14_over.r (a0 : Bool) (a1 a2 a3 a4 : Int) (b0 : Bool) (b1 b2 b3 b4 : Int) (c0 : Bool) (c1 c2 c3 c4 : Int) : runF P G (tab L_r14_times) { merge := true, glue := true } 60 Tryz.f101 [wN a0 a1 a2 a3 a4, wN b0 b1 b2 b3 b4, wN c0 c1 c2 c3 c4] = r14_over.c none (fun q => some (v11 q)) a0 a1 a2 a3 a4 b0 b1 b2 b3 b4 c0 c1 c2 c3 c4 := by kernel_rfl
theorem r14_over.t : TabOK P G (tab L_r14_over) :=
  TabOK_mkL C r14_times.t Tryz.func101 (by kernel_rfl) { merge := true, glue := true } (fun c _ => LoopsOK_nil c) 60 (by
    rintro ⟨⟨a0, a1, a2, a3, a4, ⟨⟩⟩, ⟨b0, b1, b2, b3, b4, ⟨⟩⟩, ⟨c0, c1, c2, c3, c4, ⟨⟩⟩, ⟨⟩⟩ h
    exact (r14_over.r a0 a1 a2 a3 a4 b0 b1 b2 b3 b4 c0 c1 c2 c3 c4).trans (r14_over.p v11 a0 a1 a2 a3 a4 b0 b1 b2 b3 b4 c0 c1 c2 c3 c4 h))
def r14_rest.c0 {γ : Type} (n : γ) (k : N11 → γ) (a0 : Bool) (a1 a2 a3 a4 : Int) (b0 : Bool) (b1 b2 b3 b4 : Int) (c0 : Bool) (c1 c2 c3 c4 : Int) (t1 : Bool) (t2 : N5) (t3 : N11) (t4 t5 : Bool) (t6 : N5) (t7 : Bool) (t8 : Int) (t9 : Bool) (t10 t11 : Int × Int) (t12 : Bool) (t13 : N5) (t14 : Bool) (t15 : N5) (t16 t17 : Bool) (t18 : Int) (t19 : Bool) (t20 : Int) (t21 : Bool) (t22 : Int) (t23 : Bool) (t24 t25 : N5) (t26 : Bool) (t27 : N5) (t28 t29 : N11) (t30 t31 : Bool) (t32 t33 t34 : Int × Int) (t35 : Bool) (t36 : N5) (t37 : Bool) (t38 : N5) (t39 t40 : Bool) (t41 : Int) (t42 : Bool) (t43 : Int) (t44 : Bool) (t45 : Int) (t46 : Bool) (t47 : N5) (t48 : Bool) (t49 : N5) (t50 t51 : N11) (t52 t53 : Bool) (t54 : Int) (t55 : Bool) (t56 : Int) (t57 : Bool) (t58 : Int) (t59 : Bool) (t60 : N5) (t61 : Bool) (t62 : N5) (t63 t64 : N11) (t65 t66 : Bool) (t67 : N5) (t68 : Bool) (t69 : Int) (t70 : Bool) (t71 : Int × Int) (t72 : Bool) (t73 : N5) (t74 : Bool) (t75 : N5) (t76 t77 : Bool) (t78 : Int) (t79 : Bool) (t80 : Int) (t81 : Bool) (t82 : Int) (t83 : Bool) (t84 t85 : N5) (t86 : Bool) (t87 : N5) (t88 t89 : N11) (t90 : Bool) (t91 t92 : Int × Int) (t93 : Bool) (t94 : N5) (t95 : Bool) (t96 : N5) (t97 t98 : Bool) (t99 : Int) (t100 : Bool) (t101 : Int) (t102 : Bool) (t103 : Int) (t104 : Bool) (t105 : N5) (t106 : Bool) (t107 : N5) (t108 t109 : N11) (t110 : Bool) (t111 : N5) (t112 t113 : N11) (t114 : Bool) (t115 : N5) (t116 t117 : N11) : γ := bif t1
then bif t2.1
then k (t3.1, t3.2.1, t3.2.2.1, t3.2.2.2.1, t3.2.2.2.2.1, t3.2.2.2.2.2.1, t3.2.2.2.2.2.2.1, t3.2.2.2.2.2.2.2.1, t3.2.2.2.2.2.2.2.2.1, t3.2.2.2.2.2.2.2.2.2.1, t3.2.2.2.2.2.2.2.2.2.2)
else bif decide (c1 > 0)
then bif t4
then bif t5
then bif t7
then bif t9
then bif t12
then bif t14
then bif t16
then bif t17
then bif t19
then bif t21
then bif t23
then bif t26
then k (t28.1, t28.2.1, t28.2.2.1, t28.2.2.2.1, t28.2.2.2.2.1, t28.2.2.2.2.2.1, t28.2.2.2.2.2.2.1, t28.2.2.2.2.2.2.2.1, t28.2.2.2.2.2.2.2.2.1, t28.2.2.2.2.2.2.2.2.2.1, t28.2.2.2.2.2.2.2.2.2.2)
else n
else n
else n
else n
else n
else k (t29.1, t29.2.1, t29.2.2.1, t29.2.2.2.1, t29.2.2.2.2.1, t29.2.2.2.2.2.1, t29.2.2.2.2.2.2.1, t29.2.2.2.2.2.2.2.1, t29.2.2.2.2.2.2.2.2.1, t29.2.2.2.2.2.2.2.2.2.1, t29.2.2.2.2.2.2.2.2.2.2)
else n
else n
else bif t30
then bif t31
then bif t35
then bif t37
then bif t39
then bif t40
then bif t42
then bif t44
then bif t46
then bif t48
then k (t50.1, t50.2.1, t50.2.2.1, t50.2.2.2.1, t50.2.2.2.2.1, t50.2.2.2.2.2.1, t50.2.2.2.2.2.2.1, t50.2.2.2.2.2.2.2.1, t50.2.2.2.2.2.2.2.2.1, t50.2.2.2.2.2.2.2.2.2.1, t50.2.2.2.2.2.2.2.2.2.2)
else n
else n
else n
else n
else n
else k (t51.1, t51.2.1, t51.2.2.1, t51.2.2.2.1, t51.2.2.2.2.1, t51.2.2.2.2.2.1, t51.2.2.2.2.2.2.1, t51.2.2.2.2.2.2.2.1, t51.2.2.2.2.2.2.2.2.1, t51.2.2.2.2.2.2.2.2.2.1, t51.2.2.2.2.2.2.2.2.2.2)
else n
else n
else n
else bif t52
then bif t53
then bif t55
then bif t57
then bif t59
then bif t61
then k (t63.1, t63.2.1, t63.2.2.1, t63.2.2.2.1, t63.2.2.2.2.1, t63.2.2.2.2.2.1, t63.2.2.2.2.2.2.1, t63.2.2.2.2.2.2.2.1, t63.2.2.2.2.2.2.2.2.1, t63.2.2.2.2.2.2.2.2.2.1, t63.2.2.2.2.2.2.2.2.2.2)
else n
else n
else n
else n
else n
else k (t64.1, t64.2.1, t64.2.2.1, t64.2.2.2.1, t64.2.2.2.2.1, t64.2.2.2.2.2.1, t64.2.2.2.2.2.2.1, t64.2.2.2.2.2.2.2.1, t64.2.2.2.2.2.2.2.2.1, t64.2.2.2.2.2.2.2.2.2.1, t64.2.2.2.2.2.2.2.2.2.2)
else n
else n
else n
else bif decide (c2 < 0)
then bif t65
then bif t66
then bif t68
then bif t70
then bif t72
then bif t74
then bif t76
then bif t77
then bif t79
then bif t81
then bif t83
then bif t86
then k (t88.1, t88.2.1, t88.2.2.1, t88.2.2.2.1, t88.2.2.2.2.1, t88.2.2.2.2.2.1, t88.2.2.2.2.2.2.1, t88.2.2.2.2.2.2.2.1, t88.2.2.2.2.2.2.2.2.1, t88.2.2.2.2.2.2.2.2.2.1, t88.2.2.2.2.2.2.2.2.2.2)
else n
else n
else n
else n
else n
else k (t89.1, t89.2.1, t89.2.2.1, t89.2.2.2.1, t89.2.2.2.2.1, t89.2.2.2.2.2.1, t89.2.2.2.2.2.2.1, t89.2.2.2.2.2.2.2.1, t89.2.2.2.2.2.2.2.2.1, t89.2.2.2.2.2.2.2.2.2.1, t89.2.2.2.2.2.2.2.2.2.2)
else n
else n
else bif t90
then bif t31
then bif t93
then bif t95
then bif t97
then bif t98
then bif t100
then bif t102
then bif t104
then bif t106
then k (t108.1, t108.2.1, t108.2.2.1, t108.2.2.2.1, t108.2.2.2.2.1, t108.2.2.2.2.2.1, t108.2.2.2.2.2.2.1, t108.2.2.2.2.2.2.2.1, t108.2.2.2.2.2.2.2.2.1, t108.2.2.2.2.2.2.2.2.2.1, t108.2.2.2.2.2.2.2.2.2.2)
else n
else n
else n
else n
else n
else k (t109.1, t109.2.1, t109.2.2.1, t109.2.2.2.1, t109.2.2.2.2.1, t109.2.2.2.2.2.1, t109.2.2.2.2.2.2.1, t109.2.2.2.2.2.2.2.1, t109.2.2.2.2.2.2.2.2.1, t109.2.2.2.2.2.2.2.2.2.1, t109.2.2.2.2.2.2.2.2.2.2)
else n
else n
else n
else bif t52
then bif t53
then bif t55
then bif t57
then bif t59
then bif t110
then k (t112.1, t112.2.1, t112.2.2.1, t112.2.2.2.1, t112.2.2.2.2.1, t112.2.2.2.2.2.1, t112.2.2.2.2.2.2.1, t112.2.2.2.2.2.2.2.1, t112.2.2.2.2.2.2.2.2.1, t112.2.2.2.2.2.2.2.2.2.1, t112.2.2.2.2.2.2.2.2.2.2)
else n
else n
else n
else n
else n
else k (t113.1, t113.2.1, t113.2.2.1, t113.2.2.2.1, t113.2.2.2.2.1, t113.2.2.2.2.2.1, t113.2.2.2.2.2.2.1, t113.2.2.2.2.2.2.2.1, t113.2.2.2.2.2.2.2.2.1, t113.2.2.2.2.2.2.2.2.2.1, t113.2.2.2.2.2.2.2.2.2.2)
else n
else n
else n
else bif t52
then bif t53
then bif t55
then bif t57
then bif t59
then bif t114
then k (t116.1, t116.2.1, t116.2.2.1, t116.2.2.2.1, t116.2.2.2.2.1, t116.2.2.2.2.2.1, t116.2.2.2.2.2.2.1, t116.2.2.2.2.2.2.2.1, t116.2.2.2.2.2.2.2.2.1, t116.2.2.2.2.2.2.2.2.2.1, t116.2.2.2.2.2.2.2.2.2.2)
else n
else n
else n
else n
else n
else k (t117.1, t117.2.1, t117.2.2.1, t117.2.2.2.1, t117.2.2.2.2.1, t117.2.2.2.2.2.1, t117.2.2.2.2.2.2.1, t117.2.2.2.2.2.2.2.1, t117.2.2.2.2.2.2.2.2.1, t117.2.2.2.2.2.2.2.2.2.1, t117.2.2.2.2.2.2.2.2.2.2)
else n
def r14_rest.c {γ : Type} (n : γ) (k : N11 → γ) (a0 : Bool) (a1 a2 a3 a4 : Int) (b0 : Bool) (b1 b2 b3 b4 : Int) (c0 : Bool) (c1 c2 c3 c4 : Int) : γ := let t1 := nref_NonZero.ok b0 b1 b2 b3 b4; let t2 := nref_NonZero b0 b1 b2 b3 b4; let t3 := r14_both t2.1 t2.2.1 t2.2.2.1 t2.2.2.2.1 t2.2.2.2.2 t2.1 t2.2.1 t2.2.2.1 t2.2.2.2.1 t2.2.2.2.2; let t4 := w1_Abs.ok c1; let t5 := r14_from.ok c1; let t6 := r14_from c1; let t7 := nref_Meet.ok a0 a1 a2 a3 a4 t6.1 t6.2.1 t6.2.2.1 t6.2.2.2.1 t6.2.2.2.2; let t8 := w1_Abs c1; let t9 := bif decide (t8 > 0) then decide (t2.2.1 > 0) else false; let t10 := r14_plus 0 t8 1; let t11 := r14_product 9223372036854775807 1; let t12 := r14_clipped.ok t10.1 t10.2 t11.1 t11.2; let t13 := r14_clipped t10.1 t10.2 t11.1 t11.2; let t14 := nref_Meet.ok t2.1 t2.2.1 t2.2.2.1 t2.2.2.2.1 t2.2.2.2.2 t13.1 t13.2.1 t13.2.2.1 t13.2.2.2.1 t13.2.2.2.2; let t15 := nref_Meet t2.1 t2.2.1 t2.2.2.1 t2.2.2.2.1 t2.2.2.2.2 t13.1 t13.2.1 t13.2.2.1 t13.2.2.2.1 t13.2.2.2.2; let t16 := r14_one t15.1 t15.2.1 t15.2.2.1 t15.2.2.2.1 t15.2.2.2.2; let t17 := w1_Abs.ok t15.2.1; let t18 := w1_Abs t15.2.1; let t19 := w1_Gcd.g t18 c3; let t20 := w1_Gcd t18 c3; let t21 := w1_Mod.ok c1 t20; let t22 := w1_Mod c1 t20; let t23 := nref_Make.ok (-9223372036854775808) 9223372036854775807 t20 t22; let t24 := nref_Meet a0 a1 a2 a3 a4 t6.1 t6.2.1 t6.2.2.1 t6.2.2.2.1 t6.2.2.2.2; let t25 := nref_Make (-9223372036854775808) 9223372036854775807 t20 t22; let t26 := nref_Meet.ok t24.1 t24.2.1 t24.2.2.1 t24.2.2.2.1 t24.2.2.2.2 t25.1 t25.2.1 t25.2.2.1 t25.2.2.2.1 t25.2.2.2.2; let t27 := nref_Meet t24.1 t24.2.1 t24.2.2.1 t24.2.2.2.1 t24.2.2.2.2 t25.1 t25.2.1 t25.2.2.1 t25.2.2.2.1 t25.2.2.2.2; let t28 := r14_both t27.1 t27.2.1 t27.2.2.1 t27.2.2.2.1 t27.2.2.2.2 t15.1 t15.2.1 t15.2.2.1 t15.2.2.2.1 t15.2.2.2.2; let t29 := r14_both t24.1 t24.2.1 t24.2.2.1 t24.2.2.2.1 t24.2.2.2.2 t15.1 t15.2.1 t15.2.2.1 t15.2.2.2.1 t15.2.2.2.2; let t30 := bif decide (t8 > 0) then decide (t2.2.2.1 < 0) else false; let t31 := r14_product.ok (-9223372036854775808) 1; let t32 := r14_product (-9223372036854775808) 1; let t33 := r14_minus 0 0 t8; let t34 := r14_minus t33.1 t33.2 1; let t35 := r14_clipped.ok t32.1 t32.2 t34.1 t34.2; let t36 := r14_clipped t32.1 t32.2 t34.1 t34.2; let t37 := nref_Meet.ok t2.1 t2.2.1 t2.2.2.1 t2.2.2.2.1 t2.2.2.2.2 t36.1 t36.2.1 t36.2.2.1 t36.2.2.2.1 t36.2.2.2.2; let t38 := nref_Meet t2.1 t2.2.1 t2.2.2.1 t2.2.2.2.1 t2.2.2.2.2 t36.1 t36.2.1 t36.2.2.1 t36.2.2.2.1 t36.2.2.2.2; let t39 := r14_one t38.1 t38.2.1 t38.2.2.1 t38.2.2.2.1 t38.2.2.2.2; let t40 := w1_Abs.ok t38.2.1; let t41 := w1_Abs t38.2.1; let t42 := w1_Gcd.g t41 c3; let t43 := w1_Gcd t41 c3; let t44 := w1_Mod.ok c1 t43; let t45 := w1_Mod c1 t43; let t46 := nref_Make.ok (-9223372036854775808) 9223372036854775807 t43 t45; let t47 := nref_Make (-9223372036854775808) 9223372036854775807 t43 t45; let t48 := nref_Meet.ok t24.1 t24.2.1 t24.2.2.1 t24.2.2.2.1 t24.2.2.2.2 t47.1 t47.2.1 t47.2.2.1 t47.2.2.2.1 t47.2.2.2.2; let t49 := nref_Meet t24.1 t24.2.1 t24.2.2.1 t24.2.2.2.1 t24.2.2.2.2 t47.1 t47.2.1 t47.2.2.1 t47.2.2.2.1 t47.2.2.2.2; let t50 := r14_both t49.1 t49.2.1 t49.2.2.1 t49.2.2.2.1 t49.2.2.2.2 t38.1 t38.2.1 t38.2.2.1 t38.2.2.2.1 t38.2.2.2.2; let t51 := r14_both t24.1 t24.2.1 t24.2.2.1 t24.2.2.2.1 t24.2.2.2.2 t38.1 t38.2.1 t38.2.2.1 t38.2.2.2.1 t38.2.2.2.2; let t52 := r14_one t2.1 t2.2.1 t2.2.2.1 t2.2.2.2.1 t2.2.2.2.2; let t53 := w1_Abs.ok t2.2.1; let t54 := w1_Abs t2.2.1; let t55 := w1_Gcd.g t54 c3; let t56 := w1_Gcd t54 c3; let t57 := w1_Mod.ok c1 t56; let t58 := w1_Mod c1 t56; let t59 := nref_Make.ok (-9223372036854775808) 9223372036854775807 t56 t58; let t60 := nref_Make (-9223372036854775808) 9223372036854775807 t56 t58; let t61 := nref_Meet.ok t24.1 t24.2.1 t24.2.2.1 t24.2.2.2.1 t24.2.2.2.2 t60.1 t60.2.1 t60.2.2.1 t60.2.2.2.1 t60.2.2.2.2; let t62 := nref_Meet t24.1 t24.2.1 t24.2.2.1 t24.2.2.2.1 t24.2.2.2.2 t60.1 t60.2.1 t60.2.2.1 t60.2.2.2.1 t60.2.2.2.2; let t63 := r14_both t62.1 t62.2.1 t62.2.2.1 t62.2.2.2.1 t62.2.2.2.2 t2.1 t2.2.1 t2.2.2.1 t2.2.2.2.1 t2.2.2.2.2; let t64 := r14_both t24.1 t24.2.1 t24.2.2.1 t24.2.2.2.1 t24.2.2.2.2 t2.1 t2.2.1 t2.2.2.1 t2.2.2.2.1 t2.2.2.2.2; let t65 := w1_Abs.ok c2; let t66 := r14_to.ok c2; let t67 := r14_to c2; let t68 := nref_Meet.ok a0 a1 a2 a3 a4 t67.1 t67.2.1 t67.2.2.1 t67.2.2.2.1 t67.2.2.2.2; let t69 := w1_Abs c2; let t70 := bif decide (t69 > 0) then decide (t2.2.1 > 0) else false; let t71 := r14_plus 0 t69 1; let t72 := r14_clipped.ok t71.1 t71.2 t11.1 t11.2; let t73 := r14_clipped t71.1 t71.2 t11.1 t11.2; let t74 := nref_Meet.ok t2.1 t2.2.1 t2.2.2.1 t2.2.2.2.1 t2.2.2.2.2 t73.1 t73.2.1 t73.2.2.1 t73.2.2.2.1 t73.2.2.2.2; let t75 := nref_Meet t2.1 t2.2.1 t2.2.2.1 t2.2.2.2.1 t2.2.2.2.2 t73.1 t73.2.1 t73.2.2.1 t73.2.2.2.1 t73.2.2.2.2; let t76 := r14_one t75.1 t75.2.1 t75.2.2.1 t75.2.2.2.1 t75.2.2.2.2; let t77 := w1_Abs.ok t75.2.1; let t78 := w1_Abs t75.2.1; let t79 := w1_Gcd.g t78 c3; let t80 := w1_Gcd t78 c3; let t81 := w1_Mod.ok c1 t80; let t82 := w1_Mod c1 t80; let t83 := nref_Make.ok (-9223372036854775808) 9223372036854775807 t80 t82; let t84 := nref_Meet a0 a1 a2 a3 a4 t67.1 t67.2.1 t67.2.2.1 t67.2.2.2.1 t67.2.2.2.2; let t85 := nref_Make (-9223372036854775808) 9223372036854775807 t80 t82; let t86 := nref_Meet.ok t84.1 t84.2.1 t84.2.2.1 t84.2.2.2.1 t84.2.2.2.2 t85.1 t85.2.1 t85.2.2.1 t85.2.2.2.1 t85.2.2.2.2; let t87 := nref_Meet t84.1 t84.2.1 t84.2.2.1 t84.2.2.2.1 t84.2.2.2.2 t85.1 t85.2.1 t85.2.2.1 t85.2.2.2.1 t85.2.2.2.2; let t88 := r14_both t87.1 t87.2.1 t87.2.2.1 t87.2.2.2.1 t87.2.2.2.2 t75.1 t75.2.1 t75.2.2.1 t75.2.2.2.1 t75.2.2.2.2; let t89 := r14_both t84.1 t84.2.1 t84.2.2.1 t84.2.2.2.1 t84.2.2.2.2 t75.1 t75.2.1 t75.2.2.1 t75.2.2.2.1 t75.2.2.2.2; let t90 := bif decide (t69 > 0) then decide (t2.2.2.1 < 0) else false; let t91 := r14_minus 0 0 t69; let t92 := r14_minus t91.1 t91.2 1; let t93 := r14_clipped.ok t32.1 t32.2 t92.1 t92.2; let t94 := r14_clipped t32.1 t32.2 t92.1 t92.2; let t95 := nref_Meet.ok t2.1 t2.2.1 t2.2.2.1 t2.2.2.2.1 t2.2.2.2.2 t94.1 t94.2.1 t94.2.2.1 t94.2.2.2.1 t94.2.2.2.2; let t96 := nref_Meet t2.1 t2.2.1 t2.2.2.1 t2.2.2.2.1 t2.2.2.2.2 t94.1 t94.2.1 t94.2.2.1 t94.2.2.2.1 t94.2.2.2.2; let t97 := r14_one t96.1 t96.2.1 t96.2.2.1 t96.2.2.2.1 t96.2.2.2.2; let t98 := w1_Abs.ok t96.2.1; let t99 := w1_Abs t96.2.1; let t100 := w1_Gcd.g t99 c3; let t101 := w1_Gcd t99 c3; let t102 := w1_Mod.ok c1 t101; let t103 := w1_Mod c1 t101; let t104 := nref_Make.ok (-9223372036854775808) 9223372036854775807 t101 t103; let t105 := nref_Make (-9223372036854775808) 9223372036854775807 t101 t103; let t106 := nref_Meet.ok t84.1 t84.2.1 t84.2.2.1 t84.2.2.2.1 t84.2.2.2.2 t105.1 t105.2.1 t105.2.2.1 t105.2.2.2.1 t105.2.2.2.2; let t107 := nref_Meet t84.1 t84.2.1 t84.2.2.1 t84.2.2.2.1 t84.2.2.2.2 t105.1 t105.2.1 t105.2.2.1 t105.2.2.2.1 t105.2.2.2.2; let t108 := r14_both t107.1 t107.2.1 t107.2.2.1 t107.2.2.2.1 t107.2.2.2.2 t96.1 t96.2.1 t96.2.2.1 t96.2.2.2.1 t96.2.2.2.2; let t109 := r14_both t84.1 t84.2.1 t84.2.2.1 t84.2.2.2.1 t84.2.2.2.2 t96.1 t96.2.1 t96.2.2.1 t96.2.2.2.1 t96.2.2.2.2; let t110 := nref_Meet.ok t84.1 t84.2.1 t84.2.2.1 t84.2.2.2.1 t84.2.2.2.2 t60.1 t60.2.1 t60.2.2.1 t60.2.2.2.1 t60.2.2.2.2; let t111 := nref_Meet t84.1 t84.2.1 t84.2.2.1 t84.2.2.2.1 t84.2.2.2.2 t60.1 t60.2.1 t60.2.2.1 t60.2.2.2.1 t60.2.2.2.2; let t112 := r14_both t111.1 t111.2.1 t111.2.2.1 t111.2.2.2.1 t111.2.2.2.2 t2.1 t2.2.1 t2.2.2.1 t2.2.2.2.1 t2.2.2.2.2; let t113 := r14_both t84.1 t84.2.1 t84.2.2.1 t84.2.2.2.1 t84.2.2.2.2 t2.1 t2.2.1 t2.2.2.1 t2.2.2.2.1 t2.2.2.2.2; let t114 := nref_Meet.ok a0 a1 a2 a3 a4 t60.1 t60.2.1 t60.2.2.1 t60.2.2.2.1 t60.2.2.2.2; let t115 := nref_Meet a0 a1 a2 a3 a4 t60.1 t60.2.1 t60.2.2.1 t60.2.2.2.1 t60.2.2.2.2; let t116 := r14_both t115.1 t115.2.1 t115.2.2.1 t115.2.2.2.1 t115.2.2.2.2 t2.1 t2.2.1 t2.2.2.1 t2.2.2.2.1 t2.2.2.2.2; let t117 := r14_both a0 a1 a2 a3 a4 t2.1 t2.2.1 t2.2.2.1 t2.2.2.2.1 t2.2.2.2.2; r14_rest.c0 n k a0 a1 a2 a3 a4 b0 b1 b2 b3 b4 c0 c1 c2 c3 c4 t1 t2 t3 t4 t5 t6 t7 t8 t9 t10 t11 t12 t13 t14 t15 t16 t17 t18 t19 t20 t21 t22 t23 t24 t25 t26 t27 t28 t29 t30 t31 t32 t33 t34 t35 t36 t37 t38 t39 t40 t41 t42 t43 t44 t45 t46 t47 t48 t49 t50 t51 t52 t53 t54 t55 t56 t57 t58 t59 t60 t61 t62 t63 t64 t65 t66 t67 t68 t69 t70 t71 t72 t73 t74 t75 t76 t77 t78 t79 t80 t81 t82 t83 t84 t85 t86 t87 t88 t89 t90 t91 t92 t93 t94 t95 t96 t97 t98 t99 t100 t101 t102 t103 t104 t105 t106 t107 t108 t109 t110 t111 t112 t113 t114 t115 t116 t117
def r14_rest.ok (a0 : Bool) (a1 a2 a3 a4 : Int) (b0 : Bool) (b1 b2 b3 b4 : Int) (c0 : Bool) (c1 c2 c3 c4 : Int) : Bool := r14_rest.c false (fun _ => true) a0 a1 a2 a3 a4 b0 b1 b2 b3 b4 c0 c1 c2 c3 c4
def r14_rest (a0 : Bool) (a1 a2 a3 a4 : Int) (b0 : Bool) (b1 b2 b3 b4 : Int) (c0 : Bool) (c1 c2 c3 c4 : Int) : N11 := r14_rest.c (false, 0, 0, 0, 0, false, 0, 0, 0, 0, 0) id a0 a1 a2 a3 a4 b0 b1 b2 b3 b4 c0 c1 c2 c3 c4
def r14_rest.F : FV := mkF (cP cN (cP cN (cP cN cU))) (fun | ((a0, a1, a2, a3, a4, ()), (b0, b1, b2, b3, b4, ()), (c0, c1, c2, c3, c4, ()), ()) => r14_rest.ok a0 a1 a2 a3 a4 b0 b1 b2 b3 b4 c0 c1 c2 c3 c4) (fun | ((a0, a1, a2, a3, a4, ()), (b0, b1, b2, b3, b4, ()), (c0, c1, c2, c3, c4, ()), ()) => v11 (r14_rest a0 a1 a2 a3 a4 b0 b1 b2 b3 b4 c0 c1 c2 c3 c4))
def L_r14_rest : TL := (102, r14_rest.F) :: L_r14_over
theorem r14_rest.p0 {γ : Type} (k : N11 → γ) (a0 a1 a2 a3 a4 b0 b1 b2 b3 b4 c0 c1 c2 c3 c4 t1 t2 t3 t4 t5 t6 t7 t8 t9 t10 t11 t12 t13 t14 t15 t16 t17 t18 t19 t20 t21 t22 t23 t24 t25 t26 t27 t28 t29 t30 t31 t32 t33 t34 t35 t36 t37 t38 t39 t40 t41 t42 t43 t44 t45 t46 t47 t48 t49 t50 t51 t52 t53 t54 t55 t56 t57 t58 t59 t60 t61 t62 t63 t64 t65 t66 t67 t68 t69 t70 t71 t72 t73 t74 t75 t76 t77 t78 t79 t80 t81 t82 t83 t84 t85 t86 t87 t88 t89 t90 t91 t92 t93 t94 t95 t96 t97 t98 t99 t100 t101 t102 t103 t104 t105 t106 t107 t108 t109 t110 t111 t112 t113 t114 t115 t116 t117) : r14_rest.c0 false (fun _ => true) a0 a1 a2 a3 a4 b0 b1 b2 b3 b4 c0 c1 c2 c3 c4 t1 t2 t3 t4 t5 t6 t7 t8 t9 t10 t11 t12 t13 t14 t15 t16 t17 t18 t19 t20 t21 t22 t23 t24 t25 t26 t27 t28 t29 t30 t31 t32 t33 t34 t35 t36 t37 t38 t39 t40 t41 t42 t43 t44 t45 t46 t47 t48 t49 t50 t51 t52 t53 t54 t55 t56 t57 t58 t59 t60 t61 t62 t63 t64 t65 t66 t67 t68 t69 t70 t71 t72 t73 t74 t75 t76 t77 t78 t79 t80 t81 t82 t83 t84 t85 t86 t87 t88 t89 t90 t91 t92 t93 t94 t95 t96 t97 t98 t99 t100 t101 t102 t103 t104 t105 t106 t107 t108 t109 t110 t111 t112 t113 t114 t115 t116 t117 = true → r14_rest.c0 none (fun q => some (k q)) a0 a1 a2 a3 a4 b0 b1 b2 b3 b4 c0 c1 c2 c3 c4 t1 t2 t3 t4 t5 t6 t7 t8 t9 t10 t11 t12 t13 t14 t15 t16 t17 t18 t19 t20 t21 t22 t23 t24 t25 t26 t27 t28 t29 t30 t31 t32 t33 t34 t35 t36 t37 t38 t39 t40 t41 t42 t43 t44 t45 t46 t47 t48 t49 t50 t51 t52 t53 t54 t55 t56 t57 t58 t59 t60 t61 t62 t63 t64 t65 t66 t67 t68 t69 t70 t71 t72 t73 t74 t75 t76 t77 t78 t79 t80 t81 t82 t83 t84 t85 t86 t87 t88 t89 t90 t91 t92 t93 t94 t95 t96 t97 t98 t99 t100 t101 t102 t103 t104 t105 t106 t107 t108 t109 t110 t111 t112 t113 t114 t115 t116 t117 = some (k (r14_rest.c0 (false, 0, 0, 0, 0, false, 0, 0, 0, 0, 0) id a0 a1 a2 a3 a4 b0 b1 b2 b3 b4 c0 c1 c2 c3 c4 t1 t2 t3 t4 t5 t6 t7 t8 t9 t10 t11 t12 t13 t14 t15 t16 t17 t18 t19 t20 t21 t22 t23 t24 t25 t26 t27 t28 t29 t30 t31 t32 t33 t34 t35 t36 t37 t38 t39 t40 t41 t42 t43 t44 t45 t46 t47 t48 t49 t50 t51 t52 t53 t54 t55 t56 t57 t58 t59 t60 t61 t62 t63 t64 t65 t66 t67 t68 t69 t70 t71 t72 t73 t74 t75 t76 t77 t78 t79 t80 t81 t82 t83 t84 t85 t86 t87 t88 t89 t90 t91 t92 t93 t94 t95 t96 t97 t98 t99 t100 t101 t102 t103 t104 t105 t106 t107 t108 t109 t110 t111 t112 t113 t114 t115 t116 t117)) := by
  unfold r14_rest.c0; (repeat' (first | (apply pn k) | (exact pn_none _ _) | (exact pn_leaf k _)))
theorem r14_rest.p {γ : Type} (k : N11 → γ) (a0 : Bool) (a1 a2 a3 a4 : Int) (b0 : Bool) (b1 b2 b3 b4 : Int) (c0 : Bool) (c1 c2 c3 c4 : Int) (h : r14_rest.ok a0 a1 a2 a3 a4 b0 b1 b2 b3 b4 c0 c1 c2 c3 c4 = true) : r14_rest.c none (fun q => some (k q)) a0 a1 a2 a3 a4 b0 b1 b2 b3 b4 c0 c1 c2 c3 c4 = some (k (r14_rest a0 a1 a2 a3 a4 b0 b1 b2 b3 b4 c0 c1 c2 c3 c4)) := by
  revert h; unfold r14_rest.ok r14_rest r14_rest.c; apply r14_rest.p0
theorem r14_rest.r (a0 : Bool) (a1 a2 a3 a4 : Int) (b0 : Bool) (b1 b2 b3 b4 : Int) (c0 : Bool) (c1 c2 c3 c4 : Int) : runF P G (tab L_r14_over) { merge := true, glue := true } 60 Tryz.f102 [wN a0 a1 a2 a3 a4, wN b0 b1 b2 b3 b4, wN c0 c1 c2 c3 c4] = r14_rest.c none (fun q => some (v11 q)) a0 a1 a2 a3 a4 b0 b1 b2 b3 b4 c0 c1 c2 c3 c4 := by kernel_rfl
theorem r14_rest.t : TabOK P G (tab L_r14_rest) :=
  TabOK_mkL C r14_over.t Tryz.func102 (by kernel_rfl) { merge := true, glue := true } (fun c _ => LoopsOK_nil c) 60 (by
    rintro ⟨⟨a0, a1, a2, a3, a4, ⟨⟩⟩, ⟨b0, b1, b2, b3, b4, ⟨⟩⟩, ⟨c0, c1, c2, c3, c4, ⟨⟩⟩, ⟨⟩⟩ h
    exact (r14_rest.r a0 a1 a2 a3 a4 b0 b1 b2 b3 b4 c0 c1 c2 c3 c4).trans (r14_rest.p v11 a0 a1 a2 a3 a4 b0 b1 b2 b3 b4 c0 c1 c2 c3 c4 h))
def r14_Solve.c0 {γ : Type} (n : γ) (k : N11 → γ) (a : Int) (b0 : Bool) (b1 b2 b3 b4 : Int) (c0 : Bool) (c1 c2 c3 c4 : Int) (d0 : Bool) (d1 d2 d3 d4 : Int) (t1 t2 t3 t4 t5 t6 t7 t8 t9 t10 t11 t12 t13 t14 t15 t16 t17 : Bool) (t18 : N5) (t19 : Bool) (t20 t21 : N5) (t22 : Bool) (t23 : N5) (t24 : N11) (t25 : N5) (t26 : Bool) (t27 : N5) (t28 t29 : Bool) (t30 : N5) (t31 : Bool) (t32 t33 : N5) (t34 : N11) (t35 : Bool) (t36 : N5) (t37 t38 : Bool) (t39 : N5) (t40 : Bool) (t41 t42 : N5) (t43 : N11) (t44 : Bool) (t45 : N11) (t46 : Bool) (t47 : N11) (t48 : Bool) (t49 : N11) : γ := bif t5
then k (nref_Bot.1, nref_Bot.2.1, nref_Bot.2.2.1, nref_Bot.2.2.2.1, nref_Bot.2.2.2.2, nref_Bot.1, nref_Bot.2.1, nref_Bot.2.2.1, nref_Bot.2.2.2.1, nref_Bot.2.2.2.2, 1)
else bif (t6 || !true) && ((t7 || !(!t8 && true)) && ((t9 || !(!t11 && true)) && true))
then bif t14
then k (nref_Bot.1, nref_Bot.2.1, nref_Bot.2.2.1, nref_Bot.2.2.2.1, nref_Bot.2.2.2.2, nref_Bot.1, nref_Bot.2.1, nref_Bot.2.2.1, nref_Bot.2.2.2.1, nref_Bot.2.2.2.2, 0)
else bif t15
then bif t16
then bif t17
then bif a == 1
then bif t19
then bif t22
then bif nref_Top.ok
then k (t24.1, t24.2.1, t24.2.2.1, t24.2.2.2.1, t24.2.2.2.2.1, t24.2.2.2.2.2.1, t24.2.2.2.2.2.2.1, t24.2.2.2.2.2.2.2.1, t24.2.2.2.2.2.2.2.2.1, t24.2.2.2.2.2.2.2.2.2.1, t24.2.2.2.2.2.2.2.2.2.2)
else n
else n
else n
else bif a == 3
then bif t26
then bif t28
then bif t29
then bif t31
then k (t34.1, t34.2.1, t34.2.2.1, t34.2.2.2.1, t34.2.2.2.2.1, t34.2.2.2.2.2.1, t34.2.2.2.2.2.2.1, t34.2.2.2.2.2.2.2.1, t34.2.2.2.2.2.2.2.2.1, t34.2.2.2.2.2.2.2.2.2.1, t34.2.2.2.2.2.2.2.2.2.2)
else n
else n
else n
else n
else bif a == 4
then bif t35
then bif t37
then bif t38
then bif t40
then k (t43.1, t43.2.1, t43.2.2.1, t43.2.2.2.1, t43.2.2.2.2.1, t43.2.2.2.2.2.1, t43.2.2.2.2.2.2.1, t43.2.2.2.2.2.2.2.1, t43.2.2.2.2.2.2.2.2.1, t43.2.2.2.2.2.2.2.2.2.1, t43.2.2.2.2.2.2.2.2.2.2)
else n
else n
else n
else n
else bif a == 5
then bif t44
then k (t45.1, t45.2.1, t45.2.2.1, t45.2.2.2.1, t45.2.2.2.2.1, t45.2.2.2.2.2.1, t45.2.2.2.2.2.2.1, t45.2.2.2.2.2.2.2.1, t45.2.2.2.2.2.2.2.2.1, t45.2.2.2.2.2.2.2.2.2.1, t45.2.2.2.2.2.2.2.2.2.2)
else n
else bif a == 6
then bif t46
then k (t47.1, t47.2.1, t47.2.2.1, t47.2.2.2.1, t47.2.2.2.2.1, t47.2.2.2.2.2.1, t47.2.2.2.2.2.2.1, t47.2.2.2.2.2.2.2.1, t47.2.2.2.2.2.2.2.2.1, t47.2.2.2.2.2.2.2.2.2.1, t47.2.2.2.2.2.2.2.2.2.2)
else n
else bif t48
then k (t49.1, t49.2.1, t49.2.2.1, t49.2.2.2.1, t49.2.2.2.2.1, t49.2.2.2.2.2.1, t49.2.2.2.2.2.2.1, t49.2.2.2.2.2.2.2.1, t49.2.2.2.2.2.2.2.2.1, t49.2.2.2.2.2.2.2.2.2.1, t49.2.2.2.2.2.2.2.2.2.2)
else n
else n
else n
else n
else n
def r14_Solve.c {γ : Type} (n : γ) (k : N11 → γ) (a : Int) (b0 : Bool) (b1 b2 b3 b4 : Int) (c0 : Bool) (c1 c2 c3 c4 : Int) (d0 : Bool) (d1 d2 d3 d4 : Int) : γ := let t1 := bif a != 1 then a != 3 else false; let t2 := bif t1 then a != 4 else false; let t3 := bif t2 then a != 5 else false; let t4 := bif t3 then a != 6 else false; let t5 := bif t4 then a != 7 else false; let t6 := r14_bot.ok b0 b1 b2 b3 b4; let t7 := r14_bot.ok d0 d1 d2 d3 d4; let t8 := r14_bot b0 b1 b2 b3 b4; let t9 := r14_bot.ok c0 c1 c2 c3 c4; let t10 := r14_bot d0 d1 d2 d3 d4; let t11 := bif t8 then true else t10; let t12 := r14_bot c0 c1 c2 c3 c4; let t13 := bif t12 then a != 1 else false; let t14 := bif t11 then true else t13; let t15 := nref_Norm.ok b0 b1 b2 b3 b4; let t16 := nref_Norm.ok c0 c1 c2 c3 c4; let t17 := nref_Norm.ok d0 d1 d2 d3 d4; let t18 := nref_Norm d0 d1 d2 d3 d4; let t19 := r14_made.ok 1 t18.1 t18.2.1 t18.2.2.1 t18.2.2.2.1 t18.2.2.2.2 t18.1 t18.2.1 t18.2.2.1 t18.2.2.2.1 t18.2.2.2.2; let t20 := nref_Norm b0 b1 b2 b3 b4; let t21 := r14_made 1 t18.1 t18.2.1 t18.2.2.1 t18.2.2.2.1 t18.2.2.2.2 t18.1 t18.2.1 t18.2.2.1 t18.2.2.2.1 t18.2.2.2.2; let t22 := nref_Meet.ok t20.1 t20.2.1 t20.2.2.1 t20.2.2.2.1 t20.2.2.2.2 t21.1 t21.2.1 t21.2.2.1 t21.2.2.2.1 t21.2.2.2.2; let t23 := nref_Meet t20.1 t20.2.1 t20.2.2.1 t20.2.2.2.1 t20.2.2.2.2 t21.1 t21.2.1 t21.2.2.1 t21.2.2.2.1 t21.2.2.2.2; let t24 := r14_both t23.1 t23.2.1 t23.2.2.1 t23.2.2.2.1 t23.2.2.2.2 nref_Top.1 nref_Top.2.1 nref_Top.2.2.1 nref_Top.2.2.2.1 nref_Top.2.2.2.2; let t25 := nref_Norm c0 c1 c2 c3 c4; let t26 := r14_made.ok 4 t18.1 t18.2.1 t18.2.2.1 t18.2.2.2.1 t18.2.2.2.2 t25.1 t25.2.1 t25.2.2.1 t25.2.2.2.1 t25.2.2.2.2; let t27 := r14_made 4 t18.1 t18.2.1 t18.2.2.1 t18.2.2.2.1 t18.2.2.2.2 t25.1 t25.2.1 t25.2.2.1 t25.2.2.2.1 t25.2.2.2.2; let t28 := nref_Meet.ok t20.1 t20.2.1 t20.2.2.1 t20.2.2.2.1 t20.2.2.2.2 t27.1 t27.2.1 t27.2.2.1 t27.2.2.2.1 t27.2.2.2.2; let t29 := r14_made.ok 4 t18.1 t18.2.1 t18.2.2.1 t18.2.2.2.1 t18.2.2.2.2 t20.1 t20.2.1 t20.2.2.1 t20.2.2.2.1 t20.2.2.2.2; let t30 := r14_made 4 t18.1 t18.2.1 t18.2.2.1 t18.2.2.2.1 t18.2.2.2.2 t20.1 t20.2.1 t20.2.2.1 t20.2.2.2.1 t20.2.2.2.2; let t31 := nref_Meet.ok t25.1 t25.2.1 t25.2.2.1 t25.2.2.2.1 t25.2.2.2.2 t30.1 t30.2.1 t30.2.2.1 t30.2.2.2.1 t30.2.2.2.2; let t32 := nref_Meet t20.1 t20.2.1 t20.2.2.1 t20.2.2.2.1 t20.2.2.2.2 t27.1 t27.2.1 t27.2.2.1 t27.2.2.2.1 t27.2.2.2.2; let t33 := nref_Meet t25.1 t25.2.1 t25.2.2.1 t25.2.2.2.1 t25.2.2.2.2 t30.1 t30.2.1 t30.2.2.1 t30.2.2.2.1 t30.2.2.2.2; let t34 := r14_both t32.1 t32.2.1 t32.2.2.1 t32.2.2.2.1 t32.2.2.2.2 t33.1 t33.2.1 t33.2.2.1 t33.2.2.2.1 t33.2.2.2.2; let t35 := r14_made.ok 3 t18.1 t18.2.1 t18.2.2.1 t18.2.2.2.1 t18.2.2.2.2 t25.1 t25.2.1 t25.2.2.1 t25.2.2.2.1 t25.2.2.2.2; let t36 := r14_made 3 t18.1 t18.2.1 t18.2.2.1 t18.2.2.2.1 t18.2.2.2.2 t25.1 t25.2.1 t25.2.2.1 t25.2.2.2.1 t25.2.2.2.2; let t37 := nref_Meet.ok t20.1 t20.2.1 t20.2.2.1 t20.2.2.2.1 t20.2.2.2.2 t36.1 t36.2.1 t36.2.2.1 t36.2.2.2.1 t36.2.2.2.2; let t38 := r14_made.ok 4 t20.1 t20.2.1 t20.2.2.1 t20.2.2.2.1 t20.2.2.2.2 t18.1 t18.2.1 t18.2.2.1 t18.2.2.2.1 t18.2.2.2.2; let t39 := r14_made 4 t20.1 t20.2.1 t20.2.2.1 t20.2.2.2.1 t20.2.2.2.2 t18.1 t18.2.1 t18.2.2.1 t18.2.2.2.1 t18.2.2.2.2; let t40 := nref_Meet.ok t25.1 t25.2.1 t25.2.2.1 t25.2.2.2.1 t25.2.2.2.2 t39.1 t39.2.1 t39.2.2.1 t39.2.2.2.1 t39.2.2.2.2; let t41 := nref_Meet t20.1 t20.2.1 t20.2.2.1 t20.2.2.2.1 t20.2.2.2.2 t36.1 t36.2.1 t36.2.2.1 t36.2.2.2.1 t36.2.2.2.2; let t42 := nref_Meet t25.1 t25.2.1 t25.2.2.1 t25.2.2.2.1 t25.2.2.2.2 t39.1 t39.2.1 t39.2.2.1 t39.2.2.2.1 t39.2.2.2.2; let t43 := r14_both t41.1 t41.2.1 t41.2.2.1 t41.2.2.2.1 t41.2.2.2.2 t42.1 t42.2.1 t42.2.2.1 t42.2.2.2.1 t42.2.2.2.2; let t44 := r14_times.ok t20.1 t20.2.1 t20.2.2.1 t20.2.2.2.1 t20.2.2.2.2 t25.1 t25.2.1 t25.2.2.1 t25.2.2.2.1 t25.2.2.2.2 t18.1 t18.2.1 t18.2.2.1 t18.2.2.2.1 t18.2.2.2.2; let t45 := r14_times t20.1 t20.2.1 t20.2.2.1 t20.2.2.2.1 t20.2.2.2.2 t25.1 t25.2.1 t25.2.2.1 t25.2.2.2.1 t25.2.2.2.2 t18.1 t18.2.1 t18.2.2.1 t18.2.2.2.1 t18.2.2.2.2; let t46 := r14_over.ok t20.1 t20.2.1 t20.2.2.1 t20.2.2.2.1 t20.2.2.2.2 t25.1 t25.2.1 t25.2.2.1 t25.2.2.2.1 t25.2.2.2.2 t18.1 t18.2.1 t18.2.2.1 t18.2.2.2.1 t18.2.2.2.2; let t47 := r14_over t20.1 t20.2.1 t20.2.2.1 t20.2.2.2.1 t20.2.2.2.2 t25.1 t25.2.1 t25.2.2.1 t25.2.2.2.1 t25.2.2.2.2 t18.1 t18.2.1 t18.2.2.1 t18.2.2.2.1 t18.2.2.2.2; let t48 := r14_rest.ok t20.1 t20.2.1 t20.2.2.1 t20.2.2.2.1 t20.2.2.2.2 t25.1 t25.2.1 t25.2.2.1 t25.2.2.2.1 t25.2.2.2.2 t18.1 t18.2.1 t18.2.2.1 t18.2.2.2.1 t18.2.2.2.2; let t49 := r14_rest t20.1 t20.2.1 t20.2.2.1 t20.2.2.2.1 t20.2.2.2.2 t25.1 t25.2.1 t25.2.2.1 t25.2.2.2.1 t25.2.2.2.2 t18.1 t18.2.1 t18.2.2.1 t18.2.2.2.1 t18.2.2.2.2; r14_Solve.c0 n k a b0 b1 b2 b3 b4 c0 c1 c2 c3 c4 d0 d1 d2 d3 d4 t1 t2 t3 t4 t5 t6 t7 t8 t9 t10 t11 t12 t13 t14 t15 t16 t17 t18 t19 t20 t21 t22 t23 t24 t25 t26 t27 t28 t29 t30 t31 t32 t33 t34 t35 t36 t37 t38 t39 t40 t41 t42 t43 t44 t45 t46 t47 t48 t49
def r14_Solve.ok (a : Int) (b0 : Bool) (b1 b2 b3 b4 : Int) (c0 : Bool) (c1 c2 c3 c4 : Int) (d0 : Bool) (d1 d2 d3 d4 : Int) : Bool := r14_Solve.c false (fun _ => true) a b0 b1 b2 b3 b4 c0 c1 c2 c3 c4 d0 d1 d2 d3 d4
def r14_Solve (a : Int) (b0 : Bool) (b1 b2 b3 b4 : Int) (c0 : Bool) (c1 c2 c3 c4 : Int) (d0 : Bool) (d1 d2 d3 d4 : Int) : N11 := r14_Solve.c (false, 0, 0, 0, 0, false, 0, 0, 0, 0, 0) id a b0 b1 b2 b3 b4 c0 c1 c2 c3 c4 d0 d1 d2 d3 d4
def r14_Solve.F : FV := mkF (cP (cI .i64) (cP cN (cP cN (cP cN cU)))) (fun | (a, (b0, b1, b2, b3, b4, ()), (c0, c1, c2, c3, c4, ()), (d0, d1, d2, d3, d4, ()), ()) => r14_Solve.ok a b0 b1 b2 b3 b4 c0 c1 c2 c3 c4 d0 d1 d2 d3 d4) (fun | (a, (b0, b1, b2, b3, b4, ()), (c0, c1, c2, c3, c4, ()), (d0, d1, d2, d3, d4, ()), ()) => v11 (r14_Solve a b0 b1 b2 b3 b4 c0 c1 c2 c3 c4 d0 d1 d2 d3 d4))
def L_r14_Solve : TL := (45, r14_Solve.F) :: L_r14_rest
theorem r14_Solve.p0 {γ : Type} (k : N11 → γ) (a b0 b1 b2 b3 b4 c0 c1 c2 c3 c4 d0 d1 d2 d3 d4 t1 t2 t3 t4 t5 t6 t7 t8 t9 t10 t11 t12 t13 t14 t15 t16 t17 t18 t19 t20 t21 t22 t23 t24 t25 t26 t27 t28 t29 t30 t31 t32 t33 t34 t35 t36 t37 t38 t39 t40 t41 t42 t43 t44 t45 t46 t47 t48 t49) : r14_Solve.c0 false (fun _ => true) a b0 b1 b2 b3 b4 c0 c1 c2 c3 c4 d0 d1 d2 d3 d4 t1 t2 t3 t4 t5 t6 t7 t8 t9 t10 t11 t12 t13 t14 t15 t16 t17 t18 t19 t20 t21 t22 t23 t24 t25 t26 t27 t28 t29 t30 t31 t32 t33 t34 t35 t36 t37 t38 t39 t40 t41 t42 t43 t44 t45 t46 t47 t48 t49 = true → r14_Solve.c0 none (fun q => some (k q)) a b0 b1 b2 b3 b4 c0 c1 c2 c3 c4 d0 d1 d2 d3 d4 t1 t2 t3 t4 t5 t6 t7 t8 t9 t10 t11 t12 t13 t14 t15 t16 t17 t18 t19 t20 t21 t22 t23 t24 t25 t26 t27 t28 t29 t30 t31 t32 t33 t34 t35 t36 t37 t38 t39 t40 t41 t42 t43 t44 t45 t46 t47 t48 t49 = some (k (r14_Solve.c0 (false, 0, 0, 0, 0, false, 0, 0, 0, 0, 0) id a b0 b1 b2 b3 b4 c0 c1 c2 c3 c4 d0 d1 d2 d3 d4 t1 t2 t3 t4 t5 t6 t7 t8 t9 t10 t11 t12 t13 t14 t15 t16 t17 t18 t19 t20 t21 t22 t23 t24 t25 t26 t27 t28 t29 t30 t31 t32 t33 t34 t35 t36 t37 t38 t39 t40 t41 t42 t43 t44 t45 t46 t47 t48 t49)) := by
  unfold r14_Solve.c0; (repeat' (first | (apply pn k) | (exact pn_none _ _) | (exact pn_leaf k _)))
theorem r14_Solve.p {γ : Type} (k : N11 → γ) (a : Int) (b0 : Bool) (b1 b2 b3 b4 : Int) (c0 : Bool) (c1 c2 c3 c4 : Int) (d0 : Bool) (d1 d2 d3 d4 : Int) (h : r14_Solve.ok a b0 b1 b2 b3 b4 c0 c1 c2 c3 c4 d0 d1 d2 d3 d4 = true) : r14_Solve.c none (fun q => some (k q)) a b0 b1 b2 b3 b4 c0 c1 c2 c3 c4 d0 d1 d2 d3 d4 = some (k (r14_Solve a b0 b1 b2 b3 b4 c0 c1 c2 c3 c4 d0 d1 d2 d3 d4)) := by
  revert h; unfold r14_Solve.ok r14_Solve r14_Solve.c; apply r14_Solve.p0
theorem r14_Solve.r (a : Int) (b0 : Bool) (b1 b2 b3 b4 : Int) (c0 : Bool) (c1 c2 c3 c4 : Int) (d0 : Bool) (d1 d2 d3 d4 : Int) : runF P G (tab L_r14_rest) { merge := true, glue := true } 60 Tryz.f45 [.int .i64 a, wN b0 b1 b2 b3 b4, wN c0 c1 c2 c3 c4, wN d0 d1 d2 d3 d4] = r14_Solve.c none (fun q => some (v11 q)) a b0 b1 b2 b3 b4 c0 c1 c2 c3 c4 d0 d1 d2 d3 d4 := by kernel_rfl
theorem r14_Solve.t : TabOK P G (tab L_r14_Solve) :=
  TabOK_mkL C r14_rest.t Tryz.func45 (by kernel_rfl) { merge := true, glue := true } (fun c _ => LoopsOK_nil c) 60 (by
    rintro ⟨a, ⟨b0, b1, b2, b3, b4, ⟨⟩⟩, ⟨c0, c1, c2, c3, c4, ⟨⟩⟩, ⟨d0, d1, d2, d3, d4, ⟨⟩⟩, ⟨⟩⟩ h
    exact (r14_Solve.r a b0 b1 b2 b3 b4 c0 c1 c2 c3 c4 d0 d1 d2 d3 d4).trans (r14_Solve.p v11 a b0 b1 b2 b3 b4 c0 c1 c2 c3 c4 d0 d1 d2 d3 d4 h))
end
end Go.Proofs.YtonpbbhlmapbdaaGreatDoor.V
