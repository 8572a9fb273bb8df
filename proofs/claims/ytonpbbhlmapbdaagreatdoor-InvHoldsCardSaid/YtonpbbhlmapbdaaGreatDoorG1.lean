/- What the functions of this seat compute, told by evaluation of their code. Conditions: none. -/
import Derived.Test.YtonpbbhlmapbdaaGreatDoorE7
set_option linter.unusedVariables false
set_option linter.unusedSimpArgs false
namespace Go.Proofs.YtonpbbhlmapbdaaGreatDoor.V
open Go Go.Wk
noncomputable section

def r14_from.c0 {γ : Type} (n : γ) (k : N5 → γ) (a : Int) (t1 : Bool) (t2 : N5) : γ := bif t1
  then k (t2.1, t2.2.1, t2.2.2.1, t2.2.2.2.1, t2.2.2.2.2)
  else n
def r14_from.c {γ : Type} (n : γ) (k : N5 → γ) (a : Int) : γ := let t1 := nref_Range.ok a 9223372036854775807; let t2 := nref_Range a 9223372036854775807; r14_from.c0 n k a t1 t2
def r14_from.ok (a : Int) : Bool := r14_from.c false (fun _ => true) a
def r14_from (a : Int) : N5 := r14_from.c (false, 0, 0, 0, 0) id a
def r14_from.F : FV := mkF (cP (cI .i64) cU) (fun | (a, ()) => r14_from.ok a) (fun | (a, ()) => .agg #[.bool (r14_from a).1, .int .i64 (r14_from a).2.1, .int .i64 (r14_from a).2.2.1, .int .u64 (r14_from a).2.2.2.1, .int .u64 (r14_from a).2.2.2.2])
def L_r14_from : TL := (105, r14_from.F) :: L_nref_Apply
theorem r14_from.p0 {γ : Type} (k : N5 → γ) (a t1 t2) : r14_from.c0 false (fun _ => true) a t1 t2 = true → r14_from.c0 none (fun q => some (k q)) a t1 t2 = some (k (r14_from.c0 (false, 0, 0, 0, 0) id a t1 t2)) := by
  unfold r14_from.c0; (repeat' (first | (apply pn k) | (exact pn_none _ _) | (exact pn_leaf k _)))
theorem r14_from.p {γ : Type} (k : N5 → γ) (a : Int) (h : r14_from.ok a = true) : r14_from.c none (fun q => some (k q)) a = some (k (r14_from a)) := by
  revert h; unfold r14_from.ok r14_from r14_from.c; exact fun h => r14_from.p0 k a _ _ h
theorem r14_from.r (a : Int) : runF P G (tab L_nref_Apply) { merge := true, glue := true } 60 Tryz.f105 [.int .i64 a] = r14_from.c none (fun q => some (.agg #[.bool (q).1, .int .i64 (q).2.1, .int .i64 (q).2.2.1, .int .u64 (q).2.2.2.1, .int .u64 (q).2.2.2.2] : Value)) a := by kernel_rfl
theorem r14_from.t : TabOK P G (tab L_r14_from) :=
  TabOK_mkL C nref_Apply.t Tryz.func105 (by kernel_rfl) { merge := true, glue := true } (fun c _ => LoopsOK_nil c) 60 (by
    rintro ⟨a, ⟨⟩⟩ h
    exact (r14_from.r a).trans (r14_from.p (fun q => (.agg #[.bool (q).1, .int .i64 (q).2.1, .int .i64 (q).2.2.1, .int .u64 (q).2.2.2.1, .int .u64 (q).2.2.2.2] : Value)) a h))

def r14_to.c0 {γ : Type} (n : γ) (k : N5 → γ) (a : Int) (t1 : Bool) (t2 : N5) : γ := bif t1
  then k (t2.1, t2.2.1, t2.2.2.1, t2.2.2.2.1, t2.2.2.2.2)
  else n
def r14_to.c {γ : Type} (n : γ) (k : N5 → γ) (a : Int) : γ := let t1 := nref_Range.ok (-9223372036854775808) a; let t2 := nref_Range (-9223372036854775808) a; r14_to.c0 n k a t1 t2
def r14_to.ok (a : Int) : Bool := r14_to.c false (fun _ => true) a
def r14_to (a : Int) : N5 := r14_to.c (false, 0, 0, 0, 0) id a
def r14_to.F : FV := mkF (cP (cI .i64) cU) (fun | (a, ()) => r14_to.ok a) (fun | (a, ()) => .agg #[.bool (r14_to a).1, .int .i64 (r14_to a).2.1, .int .i64 (r14_to a).2.2.1, .int .u64 (r14_to a).2.2.2.1, .int .u64 (r14_to a).2.2.2.2])
def L_r14_to : TL := (104, r14_to.F) :: L_r14_from
theorem r14_to.p0 {γ : Type} (k : N5 → γ) (a t1 t2) : r14_to.c0 false (fun _ => true) a t1 t2 = true → r14_to.c0 none (fun q => some (k q)) a t1 t2 = some (k (r14_to.c0 (false, 0, 0, 0, 0) id a t1 t2)) := by
  unfold r14_to.c0; (repeat' (first | (apply pn k) | (exact pn_none _ _) | (exact pn_leaf k _)))
theorem r14_to.p {γ : Type} (k : N5 → γ) (a : Int) (h : r14_to.ok a = true) : r14_to.c none (fun q => some (k q)) a = some (k (r14_to a)) := by
  revert h; unfold r14_to.ok r14_to r14_to.c; exact fun h => r14_to.p0 k a _ _ h
theorem r14_to.r (a : Int) : runF P G (tab L_r14_from) { merge := true, glue := true } 60 Tryz.f104 [.int .i64 a] = r14_to.c none (fun q => some (.agg #[.bool (q).1, .int .i64 (q).2.1, .int .i64 (q).2.2.1, .int .u64 (q).2.2.2.1, .int .u64 (q).2.2.2.2] : Value)) a := by kernel_rfl
theorem r14_to.t : TabOK P G (tab L_r14_to) :=
  TabOK_mkL C r14_from.t Tryz.func104 (by kernel_rfl) { merge := true, glue := true } (fun c _ => LoopsOK_nil c) 60 (by
    rintro ⟨a, ⟨⟩⟩ h
    exact (r14_to.r a).trans (r14_to.p (fun q => (.agg #[.bool (q).1, .int .i64 (q).2.1, .int .i64 (q).2.2.1, .int .u64 (q).2.2.2.1, .int .u64 (q).2.2.2.2] : Value)) a h))

def r14_bot.c0 {γ : Type} (n : γ) (k : Bool → γ) (a0 : Bool) (a1 a2 a3 a4 : Int) (t1 : Bool) (t2 : N5) : γ := bif t1
  then k (t2.1)
  else n
def r14_bot.c {γ : Type} (n : γ) (k : Bool → γ) (a0 : Bool) (a1 a2 a3 a4 : Int) : γ := let t1 := nref_Norm.ok a0 a1 a2 a3 a4; let t2 := nref_Norm a0 a1 a2 a3 a4; r14_bot.c0 n k a0 a1 a2 a3 a4 t1 t2
def r14_bot.ok (a0 : Bool) (a1 a2 a3 a4 : Int) : Bool := r14_bot.c false (fun _ => true) a0 a1 a2 a3 a4
def r14_bot (a0 : Bool) (a1 a2 a3 a4 : Int) : Bool := r14_bot.c (false) id a0 a1 a2 a3 a4
def r14_bot.F : FV := mkF (cP (cA (cP cB (cP (cI .i64) (cP (cI .i64) (cP (cI .u64) (cP (cI .u64) cU)))))) cU) (fun | ((a0, (a1, (a2, (a3, (a4, ()))))), ()) => r14_bot.ok a0 a1 a2 a3 a4) (fun | ((a0, (a1, (a2, (a3, (a4, ()))))), ()) => .bool (r14_bot a0 a1 a2 a3 a4))
def L_r14_bot : TL := (97, r14_bot.F) :: L_r14_to
theorem r14_bot.p0 {γ : Type} (k : Bool → γ) (a0 a1 a2 a3 a4 t1 t2) : r14_bot.c0 false (fun _ => true) a0 a1 a2 a3 a4 t1 t2 = true → r14_bot.c0 none (fun q => some (k q)) a0 a1 a2 a3 a4 t1 t2 = some (k (r14_bot.c0 (false) id a0 a1 a2 a3 a4 t1 t2)) := by
  unfold r14_bot.c0; (repeat' (first | (apply pn k) | (exact pn_none _ _) | (exact pn_leaf k _)))
theorem r14_bot.p {γ : Type} (k : Bool → γ) (a0 : Bool) (a1 a2 a3 a4 : Int) (h : r14_bot.ok a0 a1 a2 a3 a4 = true) : r14_bot.c none (fun q => some (k q)) a0 a1 a2 a3 a4 = some (k (r14_bot a0 a1 a2 a3 a4)) := by
  revert h; unfold r14_bot.ok r14_bot r14_bot.c; exact fun h => r14_bot.p0 k a0 a1 a2 a3 a4 _ _ h
theorem r14_bot.r (a0 : Bool) (a1 a2 a3 a4 : Int) : runF P G (tab L_r14_to) { merge := true, glue := true } 60 Tryz.f97 [.agg #[.bool a0, .int .i64 a1, .int .i64 a2, .int .u64 a3, .int .u64 a4]] = r14_bot.c none (fun q => some (.bool (q) : Value)) a0 a1 a2 a3 a4 := by kernel_rfl
theorem r14_bot.t : TabOK P G (tab L_r14_bot) :=
  TabOK_mkL C r14_to.t Tryz.func97 (by kernel_rfl) { merge := true, glue := true } (fun c _ => LoopsOK_nil c) 60 (by
    rintro ⟨⟨a0, ⟨a1, ⟨a2, ⟨a3, ⟨a4, ⟨⟩⟩⟩⟩⟩⟩, ⟨⟩⟩ h
    exact (r14_bot.r a0 a1 a2 a3 a4).trans (r14_bot.p (fun q => (.bool (q) : Value)) a0 a1 a2 a3 a4 h))

def r14_one.c0 {γ : Type} (k : Bool → γ) (a0 : Bool) (a1 a2 a3 a4 : Int) (t1 : Bool) : γ := k (t1)
def r14_one.c {γ : Type} (k : Bool → γ) (a0 : Bool) (a1 a2 a3 a4 : Int) : γ := let t1 := bif !a0 then a1 == a2 else false; r14_one.c0 k a0 a1 a2 a3 a4 t1
def r14_one (a0 : Bool) (a1 a2 a3 a4 : Int) : Bool := r14_one.c id a0 a1 a2 a3 a4
def r14_one.F : FV := mkF (cP (cA (cP cB (cP (cI .i64) (cP (cI .i64) (cP (cI .u64) (cP (cI .u64) cU)))))) cU) (fun _ => true) (fun | ((a0, (a1, (a2, (a3, (a4, ()))))), ()) => .bool (r14_one a0 a1 a2 a3 a4))
def L_r14_one : TL := (106, r14_one.F) :: L_r14_bot
theorem r14_one.p0 {γ : Type} (k : Bool → γ) (a0 a1 a2 a3 a4 t1) : r14_one.c0 k a0 a1 a2 a3 a4 t1 = k (r14_one.c0 id a0 a1 a2 a3 a4 t1) := by
  unfold r14_one.c0; (repeat' (first | (apply pc k) | (exact rfl)))
theorem r14_one.p {γ : Type} (k : Bool → γ) (a0 : Bool) (a1 a2 a3 a4 : Int) : r14_one.c k a0 a1 a2 a3 a4 = k (r14_one a0 a1 a2 a3 a4) := by
  unfold r14_one r14_one.c; exact r14_one.p0 k a0 a1 a2 a3 a4 _
theorem r14_one.r (a0 : Bool) (a1 a2 a3 a4 : Int) : runF P G (tab L_r14_bot) { merge := true, glue := true } 60 Tryz.f106 [.agg #[.bool a0, .int .i64 a1, .int .i64 a2, .int .u64 a3, .int .u64 a4]] = r14_one.c (fun q => some (.bool (q) : Value)) a0 a1 a2 a3 a4 := by kernel_rfl
theorem r14_one.t : TabOK P G (tab L_r14_one) :=
  TabOK_mkL C r14_bot.t Tryz.func106 (by kernel_rfl) { merge := true, glue := true } (fun c _ => LoopsOK_nil c) 60 (by
    rintro ⟨⟨a0, ⟨a1, ⟨a2, ⟨a3, ⟨a4, ⟨⟩⟩⟩⟩⟩⟩, ⟨⟩⟩ h
    exact (r14_one.r a0 a1 a2 a3 a4).trans (r14_one.p (fun q => some (.bool (q) : Value)) a0 a1 a2 a3 a4))

def r14_both.c0 {γ : Type} (k : Bool × Int × Int × Int × Int × Bool × Int × Int × Int × Int × Int → γ) (a0 : Bool) (a1 a2 a3 a4 : Int) (b0 : Bool) (b1 b2 b3 b4 : Int) (t1 : Bool) : γ := bif t1
  then k (nref_Bot.1, nref_Bot.2.1, nref_Bot.2.2.1, nref_Bot.2.2.2.1, nref_Bot.2.2.2.2, nref_Bot.1, nref_Bot.2.1, nref_Bot.2.2.1, nref_Bot.2.2.2.1, nref_Bot.2.2.2.2, 0)
  else k (a0, a1, a2, a3, a4, b0, b1, b2, b3, b4, 0)
def r14_both.c {γ : Type} (k : Bool × Int × Int × Int × Int × Bool × Int × Int × Int × Int × Int → γ) (a0 : Bool) (a1 a2 a3 a4 : Int) (b0 : Bool) (b1 b2 b3 b4 : Int) : γ := let t1 := bif a0 then true else b0; r14_both.c0 k a0 a1 a2 a3 a4 b0 b1 b2 b3 b4 t1
def r14_both (a0 : Bool) (a1 a2 a3 a4 : Int) (b0 : Bool) (b1 b2 b3 b4 : Int) : Bool × Int × Int × Int × Int × Bool × Int × Int × Int × Int × Int := r14_both.c id a0 a1 a2 a3 a4 b0 b1 b2 b3 b4
def r14_both.F : FV := mkF (cP (cA (cP cB (cP (cI .i64) (cP (cI .i64) (cP (cI .u64) (cP (cI .u64) cU)))))) (cP (cA (cP cB (cP (cI .i64) (cP (cI .i64) (cP (cI .u64) (cP (cI .u64) cU)))))) cU)) (fun _ => true) (fun | ((a0, (a1, (a2, (a3, (a4, ()))))), ((b0, (b1, (b2, (b3, (b4, ()))))), ())) => .tuple #[.agg #[.bool (r14_both a0 a1 a2 a3 a4 b0 b1 b2 b3 b4).1, .int .i64 (r14_both a0 a1 a2 a3 a4 b0 b1 b2 b3 b4).2.1, .int .i64 (r14_both a0 a1 a2 a3 a4 b0 b1 b2 b3 b4).2.2.1, .int .u64 (r14_both a0 a1 a2 a3 a4 b0 b1 b2 b3 b4).2.2.2.1, .int .u64 (r14_both a0 a1 a2 a3 a4 b0 b1 b2 b3 b4).2.2.2.2.1], .agg #[.bool (r14_both a0 a1 a2 a3 a4 b0 b1 b2 b3 b4).2.2.2.2.2.1, .int .i64 (r14_both a0 a1 a2 a3 a4 b0 b1 b2 b3 b4).2.2.2.2.2.2.1, .int .i64 (r14_both a0 a1 a2 a3 a4 b0 b1 b2 b3 b4).2.2.2.2.2.2.2.1, .int .u64 (r14_both a0 a1 a2 a3 a4 b0 b1 b2 b3 b4).2.2.2.2.2.2.2.2.1, .int .u64 (r14_both a0 a1 a2 a3 a4 b0 b1 b2 b3 b4).2.2.2.2.2.2.2.2.2.1], .int .i64 (r14_both a0 a1 a2 a3 a4 b0 b1 b2 b3 b4).2.2.2.2.2.2.2.2.2.2])
def L_r14_both : TL := (98, r14_both.F) :: L_r14_one
theorem r14_both.p0 {γ : Type} (k : Bool × Int × Int × Int × Int × Bool × Int × Int × Int × Int × Int → γ) (a0 a1 a2 a3 a4 b0 b1 b2 b3 b4 t1) : r14_both.c0 k a0 a1 a2 a3 a4 b0 b1 b2 b3 b4 t1 = k (r14_both.c0 id a0 a1 a2 a3 a4 b0 b1 b2 b3 b4 t1) := by
  unfold r14_both.c0; (repeat' (first | (apply pc k) | (exact rfl)))
theorem r14_both.p {γ : Type} (k : Bool × Int × Int × Int × Int × Bool × Int × Int × Int × Int × Int → γ) (a0 : Bool) (a1 a2 a3 a4 : Int) (b0 : Bool) (b1 b2 b3 b4 : Int) : r14_both.c k a0 a1 a2 a3 a4 b0 b1 b2 b3 b4 = k (r14_both a0 a1 a2 a3 a4 b0 b1 b2 b3 b4) := by
  unfold r14_both r14_both.c; exact r14_both.p0 k a0 a1 a2 a3 a4 b0 b1 b2 b3 b4 _
theorem r14_both.r (a0 : Bool) (a1 a2 a3 a4 : Int) (b0 : Bool) (b1 b2 b3 b4 : Int) : runF P G (tab L_r14_one) { merge := true, glue := true } 60 Tryz.f98 [.agg #[.bool a0, .int .i64 a1, .int .i64 a2, .int .u64 a3, .int .u64 a4], .agg #[.bool b0, .int .i64 b1, .int .i64 b2, .int .u64 b3, .int .u64 b4]] = r14_both.c (fun q => some (.tuple #[.agg #[.bool (q).1, .int .i64 (q).2.1, .int .i64 (q).2.2.1, .int .u64 (q).2.2.2.1, .int .u64 (q).2.2.2.2.1], .agg #[.bool (q).2.2.2.2.2.1, .int .i64 (q).2.2.2.2.2.2.1, .int .i64 (q).2.2.2.2.2.2.2.1, .int .u64 (q).2.2.2.2.2.2.2.2.1, .int .u64 (q).2.2.2.2.2.2.2.2.2.1], .int .i64 (q).2.2.2.2.2.2.2.2.2.2] : Value)) a0 a1 a2 a3 a4 b0 b1 b2 b3 b4 := by kernel_rfl
theorem r14_both.t : TabOK P G (tab L_r14_both) :=
  TabOK_mkL C r14_one.t Tryz.func98 (by kernel_rfl) { merge := true, glue := true } (fun c _ => LoopsOK_nil c) 60 (by
    rintro ⟨⟨a0, ⟨a1, ⟨a2, ⟨a3, ⟨a4, ⟨⟩⟩⟩⟩⟩⟩, ⟨⟨b0, ⟨b1, ⟨b2, ⟨b3, ⟨b4, ⟨⟩⟩⟩⟩⟩⟩, ⟨⟩⟩⟩ h
    exact (r14_both.r a0 a1 a2 a3 a4 b0 b1 b2 b3 b4).trans (r14_both.p (fun q => some (.tuple #[.agg #[.bool (q).1, .int .i64 (q).2.1, .int .i64 (q).2.2.1, .int .u64 (q).2.2.2.1, .int .u64 (q).2.2.2.2.1], .agg #[.bool (q).2.2.2.2.2.1, .int .i64 (q).2.2.2.2.2.2.1, .int .i64 (q).2.2.2.2.2.2.2.1, .int .u64 (q).2.2.2.2.2.2.2.2.1, .int .u64 (q).2.2.2.2.2.2.2.2.2.1], .int .i64 (q).2.2.2.2.2.2.2.2.2.2] : Value)) a0 a1 a2 a3 a4 b0 b1 b2 b3 b4))

def r14_lessAtEnds.c0 {γ : Type} (n : γ) (k : N5 → γ) (a0 : Bool) (a1 a2 a3 a4 b t1 : Int) (t2 : Bool) (t3 : N5) (t4 : Bool) (t5 : N5) (t6 : Bool) (t7 : Int) (t8 : Bool) (t9 : N5) (t10 : Bool) (t11 : N5) (t12 t13 : Bool) (t14 : N5) : γ := bif a1 == b
  then bif b == 9223372036854775807
   then k (nref_Bot.1, nref_Bot.2.1, nref_Bot.2.2.1, nref_Bot.2.2.2.1, nref_Bot.2.2.2.2)
   else bif t2
    then bif t4
     then bif t6
      then bif b == -9223372036854775808
       then k (nref_Bot.1, nref_Bot.2.1, nref_Bot.2.2.1, nref_Bot.2.2.2.1, nref_Bot.2.2.2.2)
       else bif t8
        then bif t10
         then k (t11.1, t11.2.1, t11.2.2.1, t11.2.2.2.1, t11.2.2.2.2)
         else n
        else n
      else k (t5.1, t5.2.1, t5.2.2.1, t5.2.2.2.1, t5.2.2.2.2)
     else n
    else n
  else bif t12
   then bif b == -9223372036854775808
    then k (nref_Bot.1, nref_Bot.2.1, nref_Bot.2.2.1, nref_Bot.2.2.2.1, nref_Bot.2.2.2.2)
    else bif t8
     then bif t13
      then k (t14.1, t14.2.1, t14.2.2.1, t14.2.2.2.1, t14.2.2.2.2)
      else n
     else n
   else k (a0, a1, a2, a3, a4)
def r14_lessAtEnds.c {γ : Type} (n : γ) (k : N5 → γ) (a0 : Bool) (a1 a2 a3 a4 b : Int) : γ := let t1 := IntKind.i64.wrap (b + 1); let t2 := r14_from.ok t1; let t3 := r14_from t1; let t4 := nref_Meet.ok a0 a1 a2 a3 a4 t3.1 t3.2.1 t3.2.2.1 t3.2.2.2.1 t3.2.2.2.2; let t5 := nref_Meet a0 a1 a2 a3 a4 t3.1 t3.2.1 t3.2.2.1 t3.2.2.2.1 t3.2.2.2.2; let t6 := bif !t5.1 then t5.2.2.1 == b else false; let t7 := IntKind.i64.wrap (b - 1); let t8 := r14_to.ok t7; let t9 := r14_to t7; let t10 := nref_Meet.ok t5.1 t5.2.1 t5.2.2.1 t5.2.2.2.1 t5.2.2.2.2 t9.1 t9.2.1 t9.2.2.1 t9.2.2.2.1 t9.2.2.2.2; let t11 := nref_Meet t5.1 t5.2.1 t5.2.2.1 t5.2.2.2.1 t5.2.2.2.2 t9.1 t9.2.1 t9.2.2.1 t9.2.2.2.1 t9.2.2.2.2; let t12 := bif !a0 then a2 == b else false; let t13 := nref_Meet.ok a0 a1 a2 a3 a4 t9.1 t9.2.1 t9.2.2.1 t9.2.2.2.1 t9.2.2.2.2; let t14 := nref_Meet a0 a1 a2 a3 a4 t9.1 t9.2.1 t9.2.2.1 t9.2.2.2.1 t9.2.2.2.2; r14_lessAtEnds.c0 n k a0 a1 a2 a3 a4 b t1 t2 t3 t4 t5 t6 t7 t8 t9 t10 t11 t12 t13 t14
def r14_lessAtEnds.ok (a0 : Bool) (a1 a2 a3 a4 b : Int) : Bool := r14_lessAtEnds.c false (fun _ => true) a0 a1 a2 a3 a4 b
def r14_lessAtEnds (a0 : Bool) (a1 a2 a3 a4 b : Int) : N5 := r14_lessAtEnds.c (false, 0, 0, 0, 0) id a0 a1 a2 a3 a4 b
def r14_lessAtEnds.F : FV := mkF (cP (cA (cP cB (cP (cI .i64) (cP (cI .i64) (cP (cI .u64) (cP (cI .u64) cU)))))) (cP (cI .i64) cU)) (fun | ((a0, (a1, (a2, (a3, (a4, ()))))), (b, ())) => r14_lessAtEnds.ok a0 a1 a2 a3 a4 b) (fun | ((a0, (a1, (a2, (a3, (a4, ()))))), (b, ())) => .agg #[.bool (r14_lessAtEnds a0 a1 a2 a3 a4 b).1, .int .i64 (r14_lessAtEnds a0 a1 a2 a3 a4 b).2.1, .int .i64 (r14_lessAtEnds a0 a1 a2 a3 a4 b).2.2.1, .int .u64 (r14_lessAtEnds a0 a1 a2 a3 a4 b).2.2.2.1, .int .u64 (r14_lessAtEnds a0 a1 a2 a3 a4 b).2.2.2.2])
def L_r14_lessAtEnds : TL := (107, r14_lessAtEnds.F) :: L_r14_both
theorem r14_lessAtEnds.p0 {γ : Type} (k : N5 → γ) (a0 a1 a2 a3 a4 b t1 t2 t3 t4 t5 t6 t7 t8 t9 t10 t11 t12 t13 t14) : r14_lessAtEnds.c0 false (fun _ => true) a0 a1 a2 a3 a4 b t1 t2 t3 t4 t5 t6 t7 t8 t9 t10 t11 t12 t13 t14 = true → r14_lessAtEnds.c0 none (fun q => some (k q)) a0 a1 a2 a3 a4 b t1 t2 t3 t4 t5 t6 t7 t8 t9 t10 t11 t12 t13 t14 = some (k (r14_lessAtEnds.c0 (false, 0, 0, 0, 0) id a0 a1 a2 a3 a4 b t1 t2 t3 t4 t5 t6 t7 t8 t9 t10 t11 t12 t13 t14)) := by
  unfold r14_lessAtEnds.c0; (repeat' (first | (apply pn k) | (exact pn_none _ _) | (exact pn_leaf k _)))
theorem r14_lessAtEnds.p {γ : Type} (k : N5 → γ) (a0 : Bool) (a1 a2 a3 a4 b : Int) (h : r14_lessAtEnds.ok a0 a1 a2 a3 a4 b = true) : r14_lessAtEnds.c none (fun q => some (k q)) a0 a1 a2 a3 a4 b = some (k (r14_lessAtEnds a0 a1 a2 a3 a4 b)) := by
  revert h; unfold r14_lessAtEnds.ok r14_lessAtEnds r14_lessAtEnds.c; exact fun h => r14_lessAtEnds.p0 k a0 a1 a2 a3 a4 b _ _ _ _ _ _ _ _ _ _ _ _ _ _ h
theorem r14_lessAtEnds.r (a0 : Bool) (a1 a2 a3 a4 b : Int) : runF P G (tab L_r14_both) { merge := true, glue := true } 60 Tryz.f107 [.agg #[.bool a0, .int .i64 a1, .int .i64 a2, .int .u64 a3, .int .u64 a4], .int .i64 b] = r14_lessAtEnds.c none (fun q => some (.agg #[.bool (q).1, .int .i64 (q).2.1, .int .i64 (q).2.2.1, .int .u64 (q).2.2.2.1, .int .u64 (q).2.2.2.2] : Value)) a0 a1 a2 a3 a4 b := by kernel_rfl
theorem r14_lessAtEnds.t : TabOK P G (tab L_r14_lessAtEnds) :=
  TabOK_mkL C r14_both.t Tryz.func107 (by kernel_rfl) { merge := true, glue := true } (fun c _ => LoopsOK_nil c) 60 (by
    rintro ⟨⟨a0, ⟨a1, ⟨a2, ⟨a3, ⟨a4, ⟨⟩⟩⟩⟩⟩⟩, ⟨b, ⟨⟩⟩⟩ h
    exact (r14_lessAtEnds.r a0 a1 a2 a3 a4 b).trans (r14_lessAtEnds.p (fun q => (.agg #[.bool (q).1, .int .i64 (q).2.1, .int .i64 (q).2.2.1, .int .u64 (q).2.2.2.1, .int .u64 (q).2.2.2.2] : Value)) a0 a1 a2 a3 a4 b h))

def r14_Negate.c {γ : Type} (k : Int × Int → γ) (a : Int) : γ := bif a == 8
  then k (11, 0)
  else bif a == 9
   then k (10, 0)
   else bif a == 10
    then k (9, 0)
    else bif a == 11
     then k (8, 0)
     else bif a == 12
      then k (13, 0)
      else bif a == 13
       then k (12, 0)
       else k (0, 1)
def r14_Negate (a : Int) : Int × Int := r14_Negate.c id a
def r14_Negate.F : FV := mkF (cP (cI .i64) cU) (fun _ => true) (fun | (a, ()) => .tuple #[.int .i64 (r14_Negate a).1, .int .i64 (r14_Negate a).2])
def L_r14_Negate : TL := (50, r14_Negate.F) :: L_r14_lessAtEnds
theorem r14_Negate.p {γ : Type} (k : Int × Int → γ) (a : Int) : r14_Negate.c k a = k (r14_Negate a) := by
  unfold r14_Negate r14_Negate.c; (repeat' (first | (apply pc k) | (exact rfl)))
theorem r14_Negate.r (a : Int) : runF P G (tab L_r14_lessAtEnds) { merge := true, glue := true } 60 Tryz.f50 [.int .i64 a] = r14_Negate.c (fun q => some (.tuple #[.int .i64 (q).1, .int .i64 (q).2] : Value)) a := by kernel_rfl
theorem r14_Negate.t : TabOK P G (tab L_r14_Negate) :=
  TabOK_mkL C r14_lessAtEnds.t Tryz.func50 (by kernel_rfl) { merge := true, glue := true } (fun c _ => LoopsOK_nil c) 60 (by
    rintro ⟨a, ⟨⟩⟩ h
    exact (r14_Negate.r a).trans (r14_Negate.p (fun q => some (.tuple #[.int .i64 (q).1, .int .i64 (q).2] : Value)) a))

def r14_Compare.c0 {γ : Type} (n : γ) (k : Bool × Int × Int × Int × Int × Bool × Int × Int × Int × Int × Int → γ) (a : Int) (b0 : Bool) (b1 b2 b3 b4 : Int) (c0 : Bool) (c1 c2 c3 c4 : Int) (t1 : Int × Int) (t2 t3 t4 t5 t6 t7 t8 : Bool) (t9 t10 : N5) (t11 : Bool) (t12 : Int) (t13 : Bool) (t14 : N5) (t15 : Bool) (t16 : Int) (t17 : Bool) (t18 : N5) (t19 : Bool) (t20 t21 : N5) (t22 : Bool × Int × Int × Int × Int × Bool × Int × Int × Int × Int × Int) (t23 : Bool) (t24 : N5) (t25 t26 : Bool) (t27 : N5) (t28 : Bool) (t29 t30 : N5) (t31 : Bool × Int × Int × Int × Int × Bool × Int × Int × Int × Int × Int) (t32 t33 t34 t35 t36 t37 t38 : Bool) (t39 t40 : N5) (t41 : Bool) (t42 : Int) (t43 : Bool) (t44 : N5) (t45 : Bool) (t46 : Int) (t47 : Bool) (t48 : N5) (t49 : Bool) (t50 t51 : N5) (t52 : Bool × Int × Int × Int × Int × Bool × Int × Int × Int × Int × Int) (t53 : Bool) (t54 : N5) (t55 t56 : Bool) (t57 : N5) (t58 : Bool) (t59 t60 : N5) (t61 : Bool × Int × Int × Int × Int × Bool × Int × Int × Int × Int × Int) (t62 : Bool) (t63 : N5) (t64 : Bool × Int × Int × Int × Int × Bool × Int × Int × Int × Int × Int) (t65 t66 t67 t68 t69 t70 : Bool) (t71 : N5) (t72 : Bool) (t73 t74 t75 t76 : Int) (t77 : N5) (t78 : Bool) (t79 t80 t81 t82 : Int) (t83 : Bool × Int × Int × Int × Int × Bool × Int × Int × Int × Int × Int) : γ := bif t1.2 != 0
  then k (nref_Bot.1, nref_Bot.2.1, nref_Bot.2.2.1, nref_Bot.2.2.2.1, nref_Bot.2.2.2.2, nref_Bot.1, nref_Bot.2.1, nref_Bot.2.2.1, nref_Bot.2.2.2.1, nref_Bot.2.2.2.2, 1)
  else bif (t2 || !true) && ((t3 || !(!t4 && true)) && true)
   then bif t6
    then k (nref_Bot.1, nref_Bot.2.1, nref_Bot.2.2.1, nref_Bot.2.2.2.1, nref_Bot.2.2.2.2, nref_Bot.1, nref_Bot.2.1, nref_Bot.2.2.1, nref_Bot.2.2.2.1, nref_Bot.2.2.2.2, 0)
    else bif t7
     then bif t8
      then bif a == 8
       then bif t11
        then k (nref_Bot.1, nref_Bot.2.1, nref_Bot.2.2.1, nref_Bot.2.2.2.1, nref_Bot.2.2.2.2, nref_Bot.1, nref_Bot.2.1, nref_Bot.2.2.1, nref_Bot.2.2.2.1, nref_Bot.2.2.2.2, 0)
        else bif t13
         then bif t15
          then bif t17
           then bif t19
            then k (t22.1, t22.2.1, t22.2.2.1, t22.2.2.2.1, t22.2.2.2.2.1, t22.2.2.2.2.2.1, t22.2.2.2.2.2.2.1, t22.2.2.2.2.2.2.2.1, t22.2.2.2.2.2.2.2.2.1, t22.2.2.2.2.2.2.2.2.2.1, t22.2.2.2.2.2.2.2.2.2.2)
            else n
           else n
          else n
         else n
       else bif a == 9
        then bif t23
         then bif t25
          then bif t26
           then bif t28
            then k (t31.1, t31.2.1, t31.2.2.1, t31.2.2.2.1, t31.2.2.2.2.1, t31.2.2.2.2.2.1, t31.2.2.2.2.2.2.1, t31.2.2.2.2.2.2.2.1, t31.2.2.2.2.2.2.2.2.1, t31.2.2.2.2.2.2.2.2.2.1, t31.2.2.2.2.2.2.2.2.2.2)
            else n
           else n
          else n
         else n
        else bif a == 10
         then bif (t32 || !true) && ((t33 || !(!t34 && true)) && true)
          then bif t36
           then k (nref_Bot.1, nref_Bot.2.1, nref_Bot.2.2.1, nref_Bot.2.2.2.1, nref_Bot.2.2.2.2, nref_Bot.1, nref_Bot.2.1, nref_Bot.2.2.1, nref_Bot.2.2.2.1, nref_Bot.2.2.2.2, 0)
           else bif t37
            then bif t38
             then bif t41
              then k (nref_Bot.1, nref_Bot.2.1, nref_Bot.2.2.1, nref_Bot.2.2.2.1, nref_Bot.2.2.2.2, nref_Bot.1, nref_Bot.2.1, nref_Bot.2.2.1, nref_Bot.2.2.2.1, nref_Bot.2.2.2.2, 0)
              else bif t43
               then bif t45
                then bif t47
                 then bif t49
                  then k (t52.2.2.2.2.2.1, t52.2.2.2.2.2.2.1, t52.2.2.2.2.2.2.2.1, t52.2.2.2.2.2.2.2.2.1, t52.2.2.2.2.2.2.2.2.2.1, t52.1, t52.2.1, t52.2.2.1, t52.2.2.2.1, t52.2.2.2.2.1, t52.2.2.2.2.2.2.2.2.2.2)
                  else n
                 else n
                else n
               else n
             else n
            else n
          else n
         else bif a == 11
          then bif (t32 || !true) && ((t33 || !(!t34 && true)) && true)
           then bif t36
            then k (nref_Bot.1, nref_Bot.2.1, nref_Bot.2.2.1, nref_Bot.2.2.2.1, nref_Bot.2.2.2.2, nref_Bot.1, nref_Bot.2.1, nref_Bot.2.2.1, nref_Bot.2.2.2.1, nref_Bot.2.2.2.2, 0)
            else bif t37
             then bif t38
              then bif t53
               then bif t55
                then bif t56
                 then bif t58
                  then k (t61.2.2.2.2.2.1, t61.2.2.2.2.2.2.1, t61.2.2.2.2.2.2.2.1, t61.2.2.2.2.2.2.2.2.1, t61.2.2.2.2.2.2.2.2.2.1, t61.1, t61.2.1, t61.2.2.1, t61.2.2.2.1, t61.2.2.2.2.1, t61.2.2.2.2.2.2.2.2.2.2)
                  else n
                 else n
                else n
               else n
              else n
             else n
           else n
          else bif a == 12
           then bif t62
            then k (t64.1, t64.2.1, t64.2.2.1, t64.2.2.2.1, t64.2.2.2.2.1, t64.2.2.2.2.2.1, t64.2.2.2.2.2.2.1, t64.2.2.2.2.2.2.2.1, t64.2.2.2.2.2.2.2.2.1, t64.2.2.2.2.2.2.2.2.2.1, t64.2.2.2.2.2.2.2.2.2.2)
            else n
           else bif t65 && true && true || t67
            then bif t68 && true && true || t70
             then k (t83.1, t83.2.1, t83.2.2.1, t83.2.2.2.1, t83.2.2.2.2.1, t83.2.2.2.2.2.1, t83.2.2.2.2.2.2.1, t83.2.2.2.2.2.2.2.1, t83.2.2.2.2.2.2.2.2.1, t83.2.2.2.2.2.2.2.2.2.1, t83.2.2.2.2.2.2.2.2.2.2)
             else n
            else n
      else n
     else n
   else n
def r14_Compare.c {γ : Type} (n : γ) (k : Bool × Int × Int × Int × Int × Bool × Int × Int × Int × Int × Int → γ) (a : Int) (b0 : Bool) (b1 b2 b3 b4 : Int) (c0 : Bool) (c1 c2 c3 c4 : Int) : γ := let t1 := r14_Negate a; let t2 := r14_bot.ok b0 b1 b2 b3 b4; let t3 := r14_bot.ok c0 c1 c2 c3 c4; let t4 := r14_bot b0 b1 b2 b3 b4; let t5 := r14_bot c0 c1 c2 c3 c4; let t6 := bif t4 then true else t5; let t7 := nref_Norm.ok b0 b1 b2 b3 b4; let t8 := nref_Norm.ok c0 c1 c2 c3 c4; let t9 := nref_Norm c0 c1 c2 c3 c4; let t10 := nref_Norm b0 b1 b2 b3 b4; let t11 := bif t9.2.2.1 == -9223372036854775808 then true else t10.2.1 == 9223372036854775807; let t12 := IntKind.i64.wrap (t9.2.2.1 - 1); let t13 := r14_to.ok t12; let t14 := r14_to t12; let t15 := nref_Meet.ok t10.1 t10.2.1 t10.2.2.1 t10.2.2.2.1 t10.2.2.2.2 t14.1 t14.2.1 t14.2.2.1 t14.2.2.2.1 t14.2.2.2.2; let t16 := IntKind.i64.wrap (t10.2.1 + 1); let t17 := r14_from.ok t16; let t18 := r14_from t16; let t19 := nref_Meet.ok t9.1 t9.2.1 t9.2.2.1 t9.2.2.2.1 t9.2.2.2.2 t18.1 t18.2.1 t18.2.2.1 t18.2.2.2.1 t18.2.2.2.2; let t20 := nref_Meet t10.1 t10.2.1 t10.2.2.1 t10.2.2.2.1 t10.2.2.2.2 t14.1 t14.2.1 t14.2.2.1 t14.2.2.2.1 t14.2.2.2.2; let t21 := nref_Meet t9.1 t9.2.1 t9.2.2.1 t9.2.2.2.1 t9.2.2.2.2 t18.1 t18.2.1 t18.2.2.1 t18.2.2.2.1 t18.2.2.2.2; let t22 := r14_both t20.1 t20.2.1 t20.2.2.1 t20.2.2.2.1 t20.2.2.2.2 t21.1 t21.2.1 t21.2.2.1 t21.2.2.2.1 t21.2.2.2.2; let t23 := r14_to.ok t9.2.2.1; let t24 := r14_to t9.2.2.1; let t25 := nref_Meet.ok t10.1 t10.2.1 t10.2.2.1 t10.2.2.2.1 t10.2.2.2.2 t24.1 t24.2.1 t24.2.2.1 t24.2.2.2.1 t24.2.2.2.2; let t26 := r14_from.ok t10.2.1; let t27 := r14_from t10.2.1; let t28 := nref_Meet.ok t9.1 t9.2.1 t9.2.2.1 t9.2.2.2.1 t9.2.2.2.2 t27.1 t27.2.1 t27.2.2.1 t27.2.2.2.1 t27.2.2.2.2; let t29 := nref_Meet t10.1 t10.2.1 t10.2.2.1 t10.2.2.2.1 t10.2.2.2.2 t24.1 t24.2.1 t24.2.2.1 t24.2.2.2.1 t24.2.2.2.2; let t30 := nref_Meet t9.1 t9.2.1 t9.2.2.1 t9.2.2.2.1 t9.2.2.2.2 t27.1 t27.2.1 t27.2.2.1 t27.2.2.2.1 t27.2.2.2.2; let t31 := r14_both t29.1 t29.2.1 t29.2.2.1 t29.2.2.2.1 t29.2.2.2.2 t30.1 t30.2.1 t30.2.2.1 t30.2.2.2.1 t30.2.2.2.2; let t32 := r14_bot.ok t9.1 t9.2.1 t9.2.2.1 t9.2.2.2.1 t9.2.2.2.2; let t33 := r14_bot.ok t10.1 t10.2.1 t10.2.2.1 t10.2.2.2.1 t10.2.2.2.2; let t34 := r14_bot t9.1 t9.2.1 t9.2.2.1 t9.2.2.2.1 t9.2.2.2.2; let t35 := r14_bot t10.1 t10.2.1 t10.2.2.1 t10.2.2.2.1 t10.2.2.2.2; let t36 := bif t34 then true else t35; let t37 := nref_Norm.ok t9.1 t9.2.1 t9.2.2.1 t9.2.2.2.1 t9.2.2.2.2; let t38 := nref_Norm.ok t10.1 t10.2.1 t10.2.2.1 t10.2.2.2.1 t10.2.2.2.2; let t39 := nref_Norm t10.1 t10.2.1 t10.2.2.1 t10.2.2.2.1 t10.2.2.2.2; let t40 := nref_Norm t9.1 t9.2.1 t9.2.2.1 t9.2.2.2.1 t9.2.2.2.2; let t41 := bif t39.2.2.1 == -9223372036854775808 then true else t40.2.1 == 9223372036854775807; let t42 := IntKind.i64.wrap (t39.2.2.1 - 1); let t43 := r14_to.ok t42; let t44 := r14_to t42; let t45 := nref_Meet.ok t40.1 t40.2.1 t40.2.2.1 t40.2.2.2.1 t40.2.2.2.2 t44.1 t44.2.1 t44.2.2.1 t44.2.2.2.1 t44.2.2.2.2; let t46 := IntKind.i64.wrap (t40.2.1 + 1); let t47 := r14_from.ok t46; let t48 := r14_from t46; let t49 := nref_Meet.ok t39.1 t39.2.1 t39.2.2.1 t39.2.2.2.1 t39.2.2.2.2 t48.1 t48.2.1 t48.2.2.1 t48.2.2.2.1 t48.2.2.2.2; let t50 := nref_Meet t40.1 t40.2.1 t40.2.2.1 t40.2.2.2.1 t40.2.2.2.2 t44.1 t44.2.1 t44.2.2.1 t44.2.2.2.1 t44.2.2.2.2; let t51 := nref_Meet t39.1 t39.2.1 t39.2.2.1 t39.2.2.2.1 t39.2.2.2.2 t48.1 t48.2.1 t48.2.2.1 t48.2.2.2.1 t48.2.2.2.2; let t52 := r14_both t50.1 t50.2.1 t50.2.2.1 t50.2.2.2.1 t50.2.2.2.2 t51.1 t51.2.1 t51.2.2.1 t51.2.2.2.1 t51.2.2.2.2; let t53 := r14_to.ok t39.2.2.1; let t54 := r14_to t39.2.2.1; let t55 := nref_Meet.ok t40.1 t40.2.1 t40.2.2.1 t40.2.2.2.1 t40.2.2.2.2 t54.1 t54.2.1 t54.2.2.1 t54.2.2.2.1 t54.2.2.2.2; let t56 := r14_from.ok t40.2.1; let t57 := r14_from t40.2.1; let t58 := nref_Meet.ok t39.1 t39.2.1 t39.2.2.1 t39.2.2.2.1 t39.2.2.2.2 t57.1 t57.2.1 t57.2.2.1 t57.2.2.2.1 t57.2.2.2.2; let t59 := nref_Meet t40.1 t40.2.1 t40.2.2.1 t40.2.2.2.1 t40.2.2.2.2 t54.1 t54.2.1 t54.2.2.1 t54.2.2.2.1 t54.2.2.2.2; let t60 := nref_Meet t39.1 t39.2.1 t39.2.2.1 t39.2.2.2.1 t39.2.2.2.2 t57.1 t57.2.1 t57.2.2.1 t57.2.2.2.1 t57.2.2.2.2; let t61 := r14_both t59.1 t59.2.1 t59.2.2.1 t59.2.2.2.1 t59.2.2.2.2 t60.1 t60.2.1 t60.2.2.1 t60.2.2.2.1 t60.2.2.2.2; let t62 := nref_Meet.ok t10.1 t10.2.1 t10.2.2.1 t10.2.2.2.1 t10.2.2.2.2 t9.1 t9.2.1 t9.2.2.1 t9.2.2.2.1 t9.2.2.2.2; let t63 := nref_Meet t10.1 t10.2.1 t10.2.2.1 t10.2.2.2.1 t10.2.2.2.2 t9.1 t9.2.1 t9.2.2.1 t9.2.2.2.1 t9.2.2.2.2; let t64 := r14_both t63.1 t63.2.1 t63.2.2.1 t63.2.2.2.1 t63.2.2.2.2 t63.1 t63.2.1 t63.2.2.1 t63.2.2.2.1 t63.2.2.2.2; let t65 := r14_lessAtEnds.ok t10.1 t10.2.1 t10.2.2.1 t10.2.2.2.1 t10.2.2.2.2 t9.2.1; let t66 := r14_one t9.1 t9.2.1 t9.2.2.1 t9.2.2.2.1 t9.2.2.2.2; let t67 := bif t66 then t65 && true else true; let t68 := r14_lessAtEnds.ok t9.1 t9.2.1 t9.2.2.1 t9.2.2.2.1 t9.2.2.2.2 t10.2.1; let t69 := r14_one t10.1 t10.2.1 t10.2.2.1 t10.2.2.2.1 t10.2.2.2.2; let t70 := bif t69 then t68 && true else true; let t71 := r14_lessAtEnds t10.1 t10.2.1 t10.2.2.1 t10.2.2.2.1 t10.2.2.2.2 t9.2.1; let t72 := bif t66 then t71.1 else t10.1; let t73 := bif t66 then t71.2.1 else t10.2.1; let t74 := bif t66 then t71.2.2.1 else t10.2.2.1; let t75 := bif t66 then t71.2.2.2.1 else t10.2.2.2.1; let t76 := bif t66 then t71.2.2.2.2 else t10.2.2.2.2; let t77 := r14_lessAtEnds t9.1 t9.2.1 t9.2.2.1 t9.2.2.2.1 t9.2.2.2.2 t10.2.1; let t78 := bif t69 then t77.1 else t9.1; let t79 := bif t69 then t77.2.1 else t9.2.1; let t80 := bif t69 then t77.2.2.1 else t9.2.2.1; let t81 := bif t69 then t77.2.2.2.1 else t9.2.2.2.1; let t82 := bif t69 then t77.2.2.2.2 else t9.2.2.2.2; let t83 := r14_both t72 t73 t74 t75 t76 t78 t79 t80 t81 t82; r14_Compare.c0 n k a b0 b1 b2 b3 b4 c0 c1 c2 c3 c4 t1 t2 t3 t4 t5 t6 t7 t8 t9 t10 t11 t12 t13 t14 t15 t16 t17 t18 t19 t20 t21 t22 t23 t24 t25 t26 t27 t28 t29 t30 t31 t32 t33 t34 t35 t36 t37 t38 t39 t40 t41 t42 t43 t44 t45 t46 t47 t48 t49 t50 t51 t52 t53 t54 t55 t56 t57 t58 t59 t60 t61 t62 t63 t64 t65 t66 t67 t68 t69 t70 t71 t72 t73 t74 t75 t76 t77 t78 t79 t80 t81 t82 t83
def r14_Compare.ok (a : Int) (b0 : Bool) (b1 b2 b3 b4 : Int) (c0 : Bool) (c1 c2 c3 c4 : Int) : Bool := r14_Compare.c false (fun _ => true) a b0 b1 b2 b3 b4 c0 c1 c2 c3 c4
def r14_Compare (a : Int) (b0 : Bool) (b1 b2 b3 b4 : Int) (c0 : Bool) (c1 c2 c3 c4 : Int) : Bool × Int × Int × Int × Int × Bool × Int × Int × Int × Int × Int := r14_Compare.c (false, 0, 0, 0, 0, false, 0, 0, 0, 0, 0) id a b0 b1 b2 b3 b4 c0 c1 c2 c3 c4
def r14_Compare.F : FV := mkF (cP (cI .i64) (cP (cA (cP cB (cP (cI .i64) (cP (cI .i64) (cP (cI .u64) (cP (cI .u64) cU)))))) (cP (cA (cP cB (cP (cI .i64) (cP (cI .i64) (cP (cI .u64) (cP (cI .u64) cU)))))) cU))) (fun | (a, ((b0, (b1, (b2, (b3, (b4, ()))))), ((c0, (c1, (c2, (c3, (c4, ()))))), ()))) => r14_Compare.ok a b0 b1 b2 b3 b4 c0 c1 c2 c3 c4) (fun | (a, ((b0, (b1, (b2, (b3, (b4, ()))))), ((c0, (c1, (c2, (c3, (c4, ()))))), ()))) => .tuple #[.agg #[.bool (r14_Compare a b0 b1 b2 b3 b4 c0 c1 c2 c3 c4).1, .int .i64 (r14_Compare a b0 b1 b2 b3 b4 c0 c1 c2 c3 c4).2.1, .int .i64 (r14_Compare a b0 b1 b2 b3 b4 c0 c1 c2 c3 c4).2.2.1, .int .u64 (r14_Compare a b0 b1 b2 b3 b4 c0 c1 c2 c3 c4).2.2.2.1, .int .u64 (r14_Compare a b0 b1 b2 b3 b4 c0 c1 c2 c3 c4).2.2.2.2.1], .agg #[.bool (r14_Compare a b0 b1 b2 b3 b4 c0 c1 c2 c3 c4).2.2.2.2.2.1, .int .i64 (r14_Compare a b0 b1 b2 b3 b4 c0 c1 c2 c3 c4).2.2.2.2.2.2.1, .int .i64 (r14_Compare a b0 b1 b2 b3 b4 c0 c1 c2 c3 c4).2.2.2.2.2.2.2.1, .int .u64 (r14_Compare a b0 b1 b2 b3 b4 c0 c1 c2 c3 c4).2.2.2.2.2.2.2.2.1, .int .u64 (r14_Compare a b0 b1 b2 b3 b4 c0 c1 c2 c3 c4).2.2.2.2.2.2.2.2.2.1], .int .i64 (r14_Compare a b0 b1 b2 b3 b4 c0 c1 c2 c3 c4).2.2.2.2.2.2.2.2.2.2])
def L_r14_Compare : TL := (48, r14_Compare.F) :: L_r14_Negate
theorem r14_Compare.p0 {γ : Type} (k : Bool × Int × Int × Int × Int × Bool × Int × Int × Int × Int × Int → γ) (a b0 b1 b2 b3 b4 c0 c1 c2 c3 c4 t1 t2 t3 t4 t5 t6 t7 t8 t9 t10 t11 t12 t13 t14 t15 t16 t17 t18 t19 t20 t21 t22 t23 t24 t25 t26 t27 t28 t29 t30 t31 t32 t33 t34 t35 t36 t37 t38 t39 t40 t41 t42 t43 t44 t45 t46 t47 t48 t49 t50 t51 t52 t53 t54 t55 t56 t57 t58 t59 t60 t61 t62 t63 t64 t65 t66 t67 t68 t69 t70 t71 t72 t73 t74 t75 t76 t77 t78 t79 t80 t81 t82 t83) : r14_Compare.c0 false (fun _ => true) a b0 b1 b2 b3 b4 c0 c1 c2 c3 c4 t1 t2 t3 t4 t5 t6 t7 t8 t9 t10 t11 t12 t13 t14 t15 t16 t17 t18 t19 t20 t21 t22 t23 t24 t25 t26 t27 t28 t29 t30 t31 t32 t33 t34 t35 t36 t37 t38 t39 t40 t41 t42 t43 t44 t45 t46 t47 t48 t49 t50 t51 t52 t53 t54 t55 t56 t57 t58 t59 t60 t61 t62 t63 t64 t65 t66 t67 t68 t69 t70 t71 t72 t73 t74 t75 t76 t77 t78 t79 t80 t81 t82 t83 = true → r14_Compare.c0 none (fun q => some (k q)) a b0 b1 b2 b3 b4 c0 c1 c2 c3 c4 t1 t2 t3 t4 t5 t6 t7 t8 t9 t10 t11 t12 t13 t14 t15 t16 t17 t18 t19 t20 t21 t22 t23 t24 t25 t26 t27 t28 t29 t30 t31 t32 t33 t34 t35 t36 t37 t38 t39 t40 t41 t42 t43 t44 t45 t46 t47 t48 t49 t50 t51 t52 t53 t54 t55 t56 t57 t58 t59 t60 t61 t62 t63 t64 t65 t66 t67 t68 t69 t70 t71 t72 t73 t74 t75 t76 t77 t78 t79 t80 t81 t82 t83 = some (k (r14_Compare.c0 (false, 0, 0, 0, 0, false, 0, 0, 0, 0, 0) id a b0 b1 b2 b3 b4 c0 c1 c2 c3 c4 t1 t2 t3 t4 t5 t6 t7 t8 t9 t10 t11 t12 t13 t14 t15 t16 t17 t18 t19 t20 t21 t22 t23 t24 t25 t26 t27 t28 t29 t30 t31 t32 t33 t34 t35 t36 t37 t38 t39 t40 t41 t42 t43 t44 t45 t46 t47 t48 t49 t50 t51 t52 t53 t54 t55 t56 t57 t58 t59 t60 t61 t62 t63 t64 t65 t66 t67 t68 t69 t70 t71 t72 t73 t74 t75 t76 t77 t78 t79 t80 t81 t82 t83)) := by
  unfold r14_Compare.c0; (repeat' (first | (apply pn k) | (exact pn_none _ _) | (exact pn_leaf k _)))
theorem r14_Compare.p {γ : Type} (k : Bool × Int × Int × Int × Int × Bool × Int × Int × Int × Int × Int → γ) (a : Int) (b0 : Bool) (b1 b2 b3 b4 : Int) (c0 : Bool) (c1 c2 c3 c4 : Int) (h : r14_Compare.ok a b0 b1 b2 b3 b4 c0 c1 c2 c3 c4 = true) : r14_Compare.c none (fun q => some (k q)) a b0 b1 b2 b3 b4 c0 c1 c2 c3 c4 = some (k (r14_Compare a b0 b1 b2 b3 b4 c0 c1 c2 c3 c4)) := by
  revert h; unfold r14_Compare.ok r14_Compare r14_Compare.c; exact fun h => r14_Compare.p0 k a b0 b1 b2 b3 b4 c0 c1 c2 c3 c4 _ _ _ _ _ _ _ _ _ _ _ _ _ _ _ _ _ _ _ _ _ _ _ _ _ _ _ _ _ _ _ _ _ _ _ _ _ _ _ _ _ _ _ _ _ _ _ _ _ _ _ _ _ _ _ _ _ _ _ _ _ _ _ _ _ _ _ _ _ _ _ _ _ _ _ _ _ _ _ _ _ _ _ h
theorem r14_Compare.r (a : Int) (b0 : Bool) (b1 b2 b3 b4 : Int) (c0 : Bool) (c1 c2 c3 c4 : Int) : runF P G (tab L_r14_Negate) { merge := true, glue := true } 60 Tryz.f48 [.int .i64 a, .agg #[.bool b0, .int .i64 b1, .int .i64 b2, .int .u64 b3, .int .u64 b4], .agg #[.bool c0, .int .i64 c1, .int .i64 c2, .int .u64 c3, .int .u64 c4]] = r14_Compare.c none (fun q => some (.tuple #[.agg #[.bool (q).1, .int .i64 (q).2.1, .int .i64 (q).2.2.1, .int .u64 (q).2.2.2.1, .int .u64 (q).2.2.2.2.1], .agg #[.bool (q).2.2.2.2.2.1, .int .i64 (q).2.2.2.2.2.2.1, .int .i64 (q).2.2.2.2.2.2.2.1, .int .u64 (q).2.2.2.2.2.2.2.2.1, .int .u64 (q).2.2.2.2.2.2.2.2.2.1], .int .i64 (q).2.2.2.2.2.2.2.2.2.2] : Value)) a b0 b1 b2 b3 b4 c0 c1 c2 c3 c4 := by kernel_rfl
theorem r14_Compare.t : TabOK P G (tab L_r14_Compare) :=
  TabOK_mkL C r14_Negate.t Tryz.func48 (by kernel_rfl) { merge := true, glue := true } (fun c _ => LoopsOK_nil c) 60 (by
    rintro ⟨a, ⟨⟨b0, ⟨b1, ⟨b2, ⟨b3, ⟨b4, ⟨⟩⟩⟩⟩⟩⟩, ⟨⟨c0, ⟨c1, ⟨c2, ⟨c3, ⟨c4, ⟨⟩⟩⟩⟩⟩⟩, ⟨⟩⟩⟩⟩ h
    exact (r14_Compare.r a b0 b1 b2 b3 b4 c0 c1 c2 c3 c4).trans (r14_Compare.p (fun q => (.tuple #[.agg #[.bool (q).1, .int .i64 (q).2.1, .int .i64 (q).2.2.1, .int .u64 (q).2.2.2.1, .int .u64 (q).2.2.2.2.1], .agg #[.bool (q).2.2.2.2.2.1, .int .i64 (q).2.2.2.2.2.2.1, .int .i64 (q).2.2.2.2.2.2.2.1, .int .u64 (q).2.2.2.2.2.2.2.2.1, .int .u64 (q).2.2.2.2.2.2.2.2.2.1], .int .i64 (q).2.2.2.2.2.2.2.2.2.2] : Value)) a b0 b1 b2 b3 b4 c0 c1 c2 c3 c4 h))

def inv_told.c0 {γ : Type} (k : Bool × Int × Int × Int × Int × N5 → γ) (a00 : Bool) (a01 a02 a03 a04 : Int) (a10 : Bool) (a11 a12 a13 a14 : Int) (t1 : Bool) : γ := bif t1
  then k (num_Bot.1, num_Bot.2.1, num_Bot.2.2.1, num_Bot.2.2.2.1, num_Bot.2.2.2.2, num_Bot.1, num_Bot.2.1, num_Bot.2.2.1, num_Bot.2.2.2.1, num_Bot.2.2.2.2)
  else k (a00, a01, a02, a03, a04, a10, a11, a12, a13, a14)
def inv_told.c {γ : Type} (k : Bool × Int × Int × Int × Int × N5 → γ) (a00 : Bool) (a01 a02 a03 a04 : Int) (a10 : Bool) (a11 a12 a13 a14 : Int) : γ := let t1 := bif a00 then true else a10; inv_told.c0 k a00 a01 a02 a03 a04 a10 a11 a12 a13 a14 t1
def inv_told (a00 : Bool) (a01 a02 a03 a04 : Int) (a10 : Bool) (a11 a12 a13 a14 : Int) : Bool × Int × Int × Int × Int × N5 := inv_told.c id a00 a01 a02 a03 a04 a10 a11 a12 a13 a14
def inv_told.F : FV := mkF (cP (cA (cP cB (cP (cI .i64) (cP (cI .i64) (cP (cI .u64) (cP (cI .u64) (cP cB (cP (cI .i64) (cP (cI .i64) (cP (cI .u64) (cP (cI .u64) cU))))))))))) cU) (fun _ => true) (fun | ((a00, (a01, (a02, (a03, (a04, (a10, (a11, (a12, (a13, (a14, ())))))))))), ()) => .tuple #[.agg #[.bool (inv_told a00 a01 a02 a03 a04 a10 a11 a12 a13 a14).1, .int .i64 (inv_told a00 a01 a02 a03 a04 a10 a11 a12 a13 a14).2.1, .int .i64 (inv_told a00 a01 a02 a03 a04 a10 a11 a12 a13 a14).2.2.1, .int .u64 (inv_told a00 a01 a02 a03 a04 a10 a11 a12 a13 a14).2.2.2.1, .int .u64 (inv_told a00 a01 a02 a03 a04 a10 a11 a12 a13 a14).2.2.2.2.1], .agg #[.bool (inv_told a00 a01 a02 a03 a04 a10 a11 a12 a13 a14).2.2.2.2.2.1, .int .i64 (inv_told a00 a01 a02 a03 a04 a10 a11 a12 a13 a14).2.2.2.2.2.2.1, .int .i64 (inv_told a00 a01 a02 a03 a04 a10 a11 a12 a13 a14).2.2.2.2.2.2.2.1, .int .u64 (inv_told a00 a01 a02 a03 a04 a10 a11 a12 a13 a14).2.2.2.2.2.2.2.2.1, .int .u64 (inv_told a00 a01 a02 a03 a04 a10 a11 a12 a13 a14).2.2.2.2.2.2.2.2.2]])
def L_inv_told : TL := (96, inv_told.F) :: L_r14_Compare
theorem inv_told.p0 {γ : Type} (k : Bool × Int × Int × Int × Int × N5 → γ) (a00 a01 a02 a03 a04 a10 a11 a12 a13 a14 t1) : inv_told.c0 k a00 a01 a02 a03 a04 a10 a11 a12 a13 a14 t1 = k (inv_told.c0 id a00 a01 a02 a03 a04 a10 a11 a12 a13 a14 t1) := by
  unfold inv_told.c0; (repeat' (first | (apply pc k) | (exact rfl)))
theorem inv_told.p {γ : Type} (k : Bool × Int × Int × Int × Int × N5 → γ) (a00 : Bool) (a01 a02 a03 a04 : Int) (a10 : Bool) (a11 a12 a13 a14 : Int) : inv_told.c k a00 a01 a02 a03 a04 a10 a11 a12 a13 a14 = k (inv_told a00 a01 a02 a03 a04 a10 a11 a12 a13 a14) := by
  unfold inv_told inv_told.c; exact inv_told.p0 k a00 a01 a02 a03 a04 a10 a11 a12 a13 a14 _
theorem inv_told.r (a00 : Bool) (a01 a02 a03 a04 : Int) (a10 : Bool) (a11 a12 a13 a14 : Int) : runF P G (tab L_r14_Compare) { merge := true, glue := true } 60 Tryz.f96 [.agg #[.bool a00, .int .i64 a01, .int .i64 a02, .int .u64 a03, .int .u64 a04, .bool a10, .int .i64 a11, .int .i64 a12, .int .u64 a13, .int .u64 a14]] = inv_told.c (fun q => some (.tuple #[.agg #[.bool (q).1, .int .i64 (q).2.1, .int .i64 (q).2.2.1, .int .u64 (q).2.2.2.1, .int .u64 (q).2.2.2.2.1], .agg #[.bool (q).2.2.2.2.2.1, .int .i64 (q).2.2.2.2.2.2.1, .int .i64 (q).2.2.2.2.2.2.2.1, .int .u64 (q).2.2.2.2.2.2.2.2.1, .int .u64 (q).2.2.2.2.2.2.2.2.2]] : Value)) a00 a01 a02 a03 a04 a10 a11 a12 a13 a14 := by kernel_rfl
theorem inv_told.t : TabOK P G (tab L_inv_told) :=
  TabOK_mkL C r14_Compare.t Tryz.func96 (by kernel_rfl) { merge := true, glue := true } (fun c _ => LoopsOK_nil c) 60 (by
    rintro ⟨⟨a00, ⟨a01, ⟨a02, ⟨a03, ⟨a04, ⟨a10, ⟨a11, ⟨a12, ⟨a13, ⟨a14, ⟨⟩⟩⟩⟩⟩⟩⟩⟩⟩⟩⟩, ⟨⟩⟩ h
    exact (inv_told.r a00 a01 a02 a03 a04 a10 a11 a12 a13 a14).trans (inv_told.p (fun q => some (.tuple #[.agg #[.bool (q).1, .int .i64 (q).2.1, .int .i64 (q).2.2.1, .int .u64 (q).2.2.2.1, .int .u64 (q).2.2.2.2.1], .agg #[.bool (q).2.2.2.2.2.1, .int .i64 (q).2.2.2.2.2.2.1, .int .i64 (q).2.2.2.2.2.2.2.1, .int .u64 (q).2.2.2.2.2.2.2.2.1, .int .u64 (q).2.2.2.2.2.2.2.2.2]] : Value)) a00 a01 a02 a03 a04 a10 a11 a12 a13 a14))

def inv_turned.c {γ : Type} (k : Bool × Int × Int × Int × Int × N5 → γ) (a00 : Bool) (a01 a02 a03 a04 : Int) (a10 : Bool) (a11 a12 a13 a14 : Int) : γ := k (a10, a11, a12, a13, a14, a00, a01, a02, a03, a04)
def inv_turned (a00 : Bool) (a01 a02 a03 a04 : Int) (a10 : Bool) (a11 a12 a13 a14 : Int) : Bool × Int × Int × Int × Int × N5 := inv_turned.c id a00 a01 a02 a03 a04 a10 a11 a12 a13 a14
def inv_turned.F : FV := mkF (cP (cA (cP cB (cP (cI .i64) (cP (cI .i64) (cP (cI .u64) (cP (cI .u64) (cP cB (cP (cI .i64) (cP (cI .i64) (cP (cI .u64) (cP (cI .u64) cU))))))))))) cU) (fun _ => true) (fun | ((a00, (a01, (a02, (a03, (a04, (a10, (a11, (a12, (a13, (a14, ())))))))))), ()) => .agg #[.bool (inv_turned a00 a01 a02 a03 a04 a10 a11 a12 a13 a14).1, .int .i64 (inv_turned a00 a01 a02 a03 a04 a10 a11 a12 a13 a14).2.1, .int .i64 (inv_turned a00 a01 a02 a03 a04 a10 a11 a12 a13 a14).2.2.1, .int .u64 (inv_turned a00 a01 a02 a03 a04 a10 a11 a12 a13 a14).2.2.2.1, .int .u64 (inv_turned a00 a01 a02 a03 a04 a10 a11 a12 a13 a14).2.2.2.2.1, .bool (inv_turned a00 a01 a02 a03 a04 a10 a11 a12 a13 a14).2.2.2.2.2.1, .int .i64 (inv_turned a00 a01 a02 a03 a04 a10 a11 a12 a13 a14).2.2.2.2.2.2.1, .int .i64 (inv_turned a00 a01 a02 a03 a04 a10 a11 a12 a13 a14).2.2.2.2.2.2.2.1, .int .u64 (inv_turned a00 a01 a02 a03 a04 a10 a11 a12 a13 a14).2.2.2.2.2.2.2.2.1, .int .u64 (inv_turned a00 a01 a02 a03 a04 a10 a11 a12 a13 a14).2.2.2.2.2.2.2.2.2])
def L_inv_turned : TL := (245, inv_turned.F) :: L_inv_told
theorem inv_turned.p {γ : Type} (k : Bool × Int × Int × Int × Int × N5 → γ) (a00 : Bool) (a01 a02 a03 a04 : Int) (a10 : Bool) (a11 a12 a13 a14 : Int) : inv_turned.c k a00 a01 a02 a03 a04 a10 a11 a12 a13 a14 = k (inv_turned a00 a01 a02 a03 a04 a10 a11 a12 a13 a14) := by
  unfold inv_turned inv_turned.c; (repeat' (first | (apply pc k) | (exact rfl)))
theorem inv_turned.r (a00 : Bool) (a01 a02 a03 a04 : Int) (a10 : Bool) (a11 a12 a13 a14 : Int) : runF P G (tab L_inv_told) { merge := true, glue := true } 60 Tryz.f245 [.agg #[.bool a00, .int .i64 a01, .int .i64 a02, .int .u64 a03, .int .u64 a04, .bool a10, .int .i64 a11, .int .i64 a12, .int .u64 a13, .int .u64 a14]] = inv_turned.c (fun q => some (.agg #[.bool (q).1, .int .i64 (q).2.1, .int .i64 (q).2.2.1, .int .u64 (q).2.2.2.1, .int .u64 (q).2.2.2.2.1, .bool (q).2.2.2.2.2.1, .int .i64 (q).2.2.2.2.2.2.1, .int .i64 (q).2.2.2.2.2.2.2.1, .int .u64 (q).2.2.2.2.2.2.2.2.1, .int .u64 (q).2.2.2.2.2.2.2.2.2] : Value)) a00 a01 a02 a03 a04 a10 a11 a12 a13 a14 := by kernel_rfl
theorem inv_turned.t : TabOK P G (tab L_inv_turned) :=
  TabOK_mkL C inv_told.t Tryz.func245 (by kernel_rfl) { merge := true, glue := true } (fun c _ => LoopsOK_nil c) 60 (by
    rintro ⟨⟨a00, ⟨a01, ⟨a02, ⟨a03, ⟨a04, ⟨a10, ⟨a11, ⟨a12, ⟨a13, ⟨a14, ⟨⟩⟩⟩⟩⟩⟩⟩⟩⟩⟩⟩, ⟨⟩⟩ h
    exact (inv_turned.r a00 a01 a02 a03 a04 a10 a11 a12 a13 a14).trans (inv_turned.p (fun q => some (.agg #[.bool (q).1, .int .i64 (q).2.1, .int .i64 (q).2.2.1, .int .u64 (q).2.2.2.1, .int .u64 (q).2.2.2.2.1, .bool (q).2.2.2.2.2.1, .int .i64 (q).2.2.2.2.2.2.1, .int .i64 (q).2.2.2.2.2.2.2.1, .int .u64 (q).2.2.2.2.2.2.2.2.1, .int .u64 (q).2.2.2.2.2.2.2.2.2] : Value)) a00 a01 a02 a03 a04 a10 a11 a12 a13 a14))

def inv_from.c0 {γ : Type} (k : N5 → γ) (a : Int) (t1 : N5) : γ := k (t1.1, t1.2.1, t1.2.2.1, t1.2.2.2.1, t1.2.2.2.2)
def inv_from.c {γ : Type} (k : N5 → γ) (a : Int) : γ := let t1 := num_Range a 9223372036854775807; inv_from.c0 k a t1
def inv_from (a : Int) : N5 := inv_from.c id a
def inv_from.F : FV := mkF (cP (cI .i64) cU) (fun _ => true) (fun | (a, ()) => .agg #[.bool (inv_from a).1, .int .i64 (inv_from a).2.1, .int .i64 (inv_from a).2.2.1, .int .u64 (inv_from a).2.2.2.1, .int .u64 (inv_from a).2.2.2.2])
def L_inv_from : TL := (238, inv_from.F) :: L_inv_turned
theorem inv_from.p0 {γ : Type} (k : N5 → γ) (a t1) : inv_from.c0 k a t1 = k (inv_from.c0 id a t1) := by
  unfold inv_from.c0; (repeat' (first | (apply pc k) | (exact rfl)))
theorem inv_from.p {γ : Type} (k : N5 → γ) (a : Int) : inv_from.c k a = k (inv_from a) := by
  unfold inv_from inv_from.c; exact inv_from.p0 k a _
theorem inv_from.r (a : Int) : runF P G (tab L_inv_turned) { merge := true, glue := true } 60 Tryz.f238 [.int .i64 a] = inv_from.c (fun q => some (.agg #[.bool (q).1, .int .i64 (q).2.1, .int .i64 (q).2.2.1, .int .u64 (q).2.2.2.1, .int .u64 (q).2.2.2.2] : Value)) a := by kernel_rfl
theorem inv_from.t : TabOK P G (tab L_inv_from) :=
  TabOK_mkL C inv_turned.t Tryz.func238 (by kernel_rfl) { merge := true, glue := true } (fun c _ => LoopsOK_nil c) 60 (by
    rintro ⟨a, ⟨⟩⟩ h
    exact (inv_from.r a).trans (inv_from.p (fun q => some (.agg #[.bool (q).1, .int .i64 (q).2.1, .int .i64 (q).2.2.1, .int .u64 (q).2.2.2.1, .int .u64 (q).2.2.2.2] : Value)) a))

def inv_to.c0 {γ : Type} (k : N5 → γ) (a : Int) (t1 : N5) : γ := k (t1.1, t1.2.1, t1.2.2.1, t1.2.2.2.1, t1.2.2.2.2)
def inv_to.c {γ : Type} (k : N5 → γ) (a : Int) : γ := let t1 := num_Range (-9223372036854775808) a; inv_to.c0 k a t1
def inv_to (a : Int) : N5 := inv_to.c id a
def inv_to.F : FV := mkF (cP (cI .i64) cU) (fun _ => true) (fun | (a, ()) => .agg #[.bool (inv_to a).1, .int .i64 (inv_to a).2.1, .int .i64 (inv_to a).2.2.1, .int .u64 (inv_to a).2.2.2.1, .int .u64 (inv_to a).2.2.2.2])
def L_inv_to : TL := (239, inv_to.F) :: L_inv_from
theorem inv_to.p0 {γ : Type} (k : N5 → γ) (a t1) : inv_to.c0 k a t1 = k (inv_to.c0 id a t1) := by
  unfold inv_to.c0; (repeat' (first | (apply pc k) | (exact rfl)))
theorem inv_to.p {γ : Type} (k : N5 → γ) (a : Int) : inv_to.c k a = k (inv_to a) := by
  unfold inv_to inv_to.c; exact inv_to.p0 k a _
theorem inv_to.r (a : Int) : runF P G (tab L_inv_from) { merge := true, glue := true } 60 Tryz.f239 [.int .i64 a] = inv_to.c (fun q => some (.agg #[.bool (q).1, .int .i64 (q).2.1, .int .i64 (q).2.2.1, .int .u64 (q).2.2.2.1, .int .u64 (q).2.2.2.2] : Value)) a := by kernel_rfl
theorem inv_to.t : TabOK P G (tab L_inv_to) :=
  TabOK_mkL C inv_from.t Tryz.func239 (by kernel_rfl) { merge := true, glue := true } (fun c _ => LoopsOK_nil c) 60 (by
    rintro ⟨a, ⟨⟩⟩ h
    exact (inv_to.r a).trans (inv_to.p (fun q => some (.agg #[.bool (q).1, .int .i64 (q).2.1, .int .i64 (q).2.2.1, .int .u64 (q).2.2.2.1, .int .u64 (q).2.2.2.2] : Value)) a))

def inv_one.c0 {γ : Type} (k : Int × Bool → γ) (a0 : Bool) (a1 a2 a3 a4 : Int) (t1 : Bool) : γ := k (a1, t1)
def inv_one.c {γ : Type} (k : Int × Bool → γ) (a0 : Bool) (a1 a2 a3 a4 : Int) : γ := let t1 := bif !a0 then a1 == a2 else false; inv_one.c0 k a0 a1 a2 a3 a4 t1
def inv_one (a0 : Bool) (a1 a2 a3 a4 : Int) : Int × Bool := inv_one.c id a0 a1 a2 a3 a4
def inv_one.F : FV := mkF (cP (cA (cP cB (cP (cI .i64) (cP (cI .i64) (cP (cI .u64) (cP (cI .u64) cU)))))) cU) (fun _ => true) (fun | ((a0, (a1, (a2, (a3, (a4, ()))))), ()) => .tuple #[.int .i64 (inv_one a0 a1 a2 a3 a4).1, .bool (inv_one a0 a1 a2 a3 a4).2])
def L_inv_one : TL := (241, inv_one.F) :: L_inv_to
theorem inv_one.p0 {γ : Type} (k : Int × Bool → γ) (a0 a1 a2 a3 a4 t1) : inv_one.c0 k a0 a1 a2 a3 a4 t1 = k (inv_one.c0 id a0 a1 a2 a3 a4 t1) := by
  unfold inv_one.c0; (repeat' (first | (apply pc k) | (exact rfl)))
theorem inv_one.p {γ : Type} (k : Int × Bool → γ) (a0 : Bool) (a1 a2 a3 a4 : Int) : inv_one.c k a0 a1 a2 a3 a4 = k (inv_one a0 a1 a2 a3 a4) := by
  unfold inv_one inv_one.c; exact inv_one.p0 k a0 a1 a2 a3 a4 _
theorem inv_one.r (a0 : Bool) (a1 a2 a3 a4 : Int) : runF P G (tab L_inv_to) { merge := true, glue := true } 60 Tryz.f241 [.agg #[.bool a0, .int .i64 a1, .int .i64 a2, .int .u64 a3, .int .u64 a4]] = inv_one.c (fun q => some (.tuple #[.int .i64 (q).1, .bool (q).2] : Value)) a0 a1 a2 a3 a4 := by kernel_rfl
theorem inv_one.t : TabOK P G (tab L_inv_one) :=
  TabOK_mkL C inv_to.t Tryz.func241 (by kernel_rfl) { merge := true, glue := true } (fun c _ => LoopsOK_nil c) 60 (by
    rintro ⟨⟨a0, ⟨a1, ⟨a2, ⟨a3, ⟨a4, ⟨⟩⟩⟩⟩⟩⟩, ⟨⟩⟩ h
    exact (inv_one.r a0 a1 a2 a3 a4).trans (inv_one.p (fun q => some (.tuple #[.int .i64 (q).1, .bool (q).2] : Value)) a0 a1 a2 a3 a4))

def inv_does.c0 {γ : Type} (n : γ) (k : N5 → γ) (a : Int) (b0 : Bool) (b1 b2 b3 b4 : Int) (c0 : Bool) (c1 c2 c3 c4 : Int) (t1 : Bool) (t2 : Bool × Int × Int × Int × Int × Int) : γ := bif t1
  then k (t2.1, t2.2.1, t2.2.2.1, t2.2.2.2.1, t2.2.2.2.2.1)
  else n
def inv_does.c {γ : Type} (n : γ) (k : N5 → γ) (a : Int) (b0 : Bool) (b1 b2 b3 b4 : Int) (c0 : Bool) (c1 c2 c3 c4 : Int) : γ := let t1 := num_Apply.ok a b0 b1 b2 b3 b4 c0 c1 c2 c3 c4; let t2 := num_Apply a b0 b1 b2 b3 b4 c0 c1 c2 c3 c4; inv_does.c0 n k a b0 b1 b2 b3 b4 c0 c1 c2 c3 c4 t1 t2
def inv_does.ok (a : Int) (b0 : Bool) (b1 b2 b3 b4 : Int) (c0 : Bool) (c1 c2 c3 c4 : Int) : Bool := inv_does.c false (fun _ => true) a b0 b1 b2 b3 b4 c0 c1 c2 c3 c4
def inv_does (a : Int) (b0 : Bool) (b1 b2 b3 b4 : Int) (c0 : Bool) (c1 c2 c3 c4 : Int) : N5 := inv_does.c (false, 0, 0, 0, 0) id a b0 b1 b2 b3 b4 c0 c1 c2 c3 c4
def inv_does.F : FV := mkF (cP (cI .i64) (cP (cA (cP cB (cP (cI .i64) (cP (cI .i64) (cP (cI .u64) (cP (cI .u64) cU)))))) (cP (cA (cP cB (cP (cI .i64) (cP (cI .i64) (cP (cI .u64) (cP (cI .u64) cU)))))) cU))) (fun | (a, ((b0, (b1, (b2, (b3, (b4, ()))))), ((c0, (c1, (c2, (c3, (c4, ()))))), ()))) => inv_does.ok a b0 b1 b2 b3 b4 c0 c1 c2 c3 c4) (fun | (a, ((b0, (b1, (b2, (b3, (b4, ()))))), ((c0, (c1, (c2, (c3, (c4, ()))))), ()))) => .agg #[.bool (inv_does a b0 b1 b2 b3 b4 c0 c1 c2 c3 c4).1, .int .i64 (inv_does a b0 b1 b2 b3 b4 c0 c1 c2 c3 c4).2.1, .int .i64 (inv_does a b0 b1 b2 b3 b4 c0 c1 c2 c3 c4).2.2.1, .int .u64 (inv_does a b0 b1 b2 b3 b4 c0 c1 c2 c3 c4).2.2.2.1, .int .u64 (inv_does a b0 b1 b2 b3 b4 c0 c1 c2 c3 c4).2.2.2.2])
def L_inv_does : TL := (231, inv_does.F) :: L_inv_one
theorem inv_does.p0 {γ : Type} (k : N5 → γ) (a b0 b1 b2 b3 b4 c0 c1 c2 c3 c4 t1 t2) : inv_does.c0 false (fun _ => true) a b0 b1 b2 b3 b4 c0 c1 c2 c3 c4 t1 t2 = true → inv_does.c0 none (fun q => some (k q)) a b0 b1 b2 b3 b4 c0 c1 c2 c3 c4 t1 t2 = some (k (inv_does.c0 (false, 0, 0, 0, 0) id a b0 b1 b2 b3 b4 c0 c1 c2 c3 c4 t1 t2)) := by
  unfold inv_does.c0; (repeat' (first | (apply pn k) | (exact pn_none _ _) | (exact pn_leaf k _)))
theorem inv_does.p {γ : Type} (k : N5 → γ) (a : Int) (b0 : Bool) (b1 b2 b3 b4 : Int) (c0 : Bool) (c1 c2 c3 c4 : Int) (h : inv_does.ok a b0 b1 b2 b3 b4 c0 c1 c2 c3 c4 = true) : inv_does.c none (fun q => some (k q)) a b0 b1 b2 b3 b4 c0 c1 c2 c3 c4 = some (k (inv_does a b0 b1 b2 b3 b4 c0 c1 c2 c3 c4)) := by
  revert h; unfold inv_does.ok inv_does inv_does.c; exact fun h => inv_does.p0 k a b0 b1 b2 b3 b4 c0 c1 c2 c3 c4 _ _ h
theorem inv_does.r (a : Int) (b0 : Bool) (b1 b2 b3 b4 : Int) (c0 : Bool) (c1 c2 c3 c4 : Int) : runF P G (tab L_inv_one) { merge := true, glue := true } 60 Tryz.f231 [.int .i64 a, .agg #[.bool b0, .int .i64 b1, .int .i64 b2, .int .u64 b3, .int .u64 b4], .agg #[.bool c0, .int .i64 c1, .int .i64 c2, .int .u64 c3, .int .u64 c4]] = inv_does.c none (fun q => some (.agg #[.bool (q).1, .int .i64 (q).2.1, .int .i64 (q).2.2.1, .int .u64 (q).2.2.2.1, .int .u64 (q).2.2.2.2] : Value)) a b0 b1 b2 b3 b4 c0 c1 c2 c3 c4 := by kernel_rfl
theorem inv_does.t : TabOK P G (tab L_inv_does) :=
  TabOK_mkL C inv_one.t Tryz.func231 (by kernel_rfl) { merge := true, glue := true } (fun c _ => LoopsOK_nil c) 60 (by
    rintro ⟨a, ⟨⟨b0, ⟨b1, ⟨b2, ⟨b3, ⟨b4, ⟨⟩⟩⟩⟩⟩⟩, ⟨⟨c0, ⟨c1, ⟨c2, ⟨c3, ⟨c4, ⟨⟩⟩⟩⟩⟩⟩, ⟨⟩⟩⟩⟩ h
    exact (inv_does.r a b0 b1 b2 b3 b4 c0 c1 c2 c3 c4).trans (inv_does.p (fun q => (.agg #[.bool (q).1, .int .i64 (q).2.1, .int .i64 (q).2.2.1, .int .u64 (q).2.2.2.1, .int .u64 (q).2.2.2.2] : Value)) a b0 b1 b2 b3 b4 c0 c1 c2 c3 c4 h))

def inv_added.c0 {γ : Type} (n : γ) (k : Bool × Int × Int × Int × Int × N5 → γ) (a0 : Bool) (a1 a2 a3 a4 : Int) (b0 : Bool) (b1 b2 b3 b4 : Int) (c0 : Bool) (c1 c2 c3 c4 : Int) (t1 : Bool) (t2 : N5) (t3 t4 : Bool) (t5 : N5) (t6 : Bool) (t7 t8 : N5) : γ := bif t1
  then bif t3
   then bif t4
    then bif t6
     then k (t7.1, t7.2.1, t7.2.2.1, t7.2.2.2.1, t7.2.2.2.2, t8.1, t8.2.1, t8.2.2.1, t8.2.2.2.1, t8.2.2.2.2)
     else n
    else n
   else n
  else n
def inv_added.c {γ : Type} (n : γ) (k : Bool × Int × Int × Int × Int × N5 → γ) (a0 : Bool) (a1 a2 a3 a4 : Int) (b0 : Bool) (b1 b2 b3 b4 : Int) (c0 : Bool) (c1 c2 c3 c4 : Int) : γ := let t1 := inv_does.ok 4 c0 c1 c2 c3 c4 b0 b1 b2 b3 b4; let t2 := inv_does 4 c0 c1 c2 c3 c4 b0 b1 b2 b3 b4; let t3 := num_Meet.ok a0 a1 a2 a3 a4 t2.1 t2.2.1 t2.2.2.1 t2.2.2.2.1 t2.2.2.2.2; let t4 := inv_does.ok 4 c0 c1 c2 c3 c4 a0 a1 a2 a3 a4; let t5 := inv_does 4 c0 c1 c2 c3 c4 a0 a1 a2 a3 a4; let t6 := num_Meet.ok b0 b1 b2 b3 b4 t5.1 t5.2.1 t5.2.2.1 t5.2.2.2.1 t5.2.2.2.2; let t7 := num_Meet a0 a1 a2 a3 a4 t2.1 t2.2.1 t2.2.2.1 t2.2.2.2.1 t2.2.2.2.2; let t8 := num_Meet b0 b1 b2 b3 b4 t5.1 t5.2.1 t5.2.2.1 t5.2.2.2.1 t5.2.2.2.2; inv_added.c0 n k a0 a1 a2 a3 a4 b0 b1 b2 b3 b4 c0 c1 c2 c3 c4 t1 t2 t3 t4 t5 t6 t7 t8
def inv_added.ok (a0 : Bool) (a1 a2 a3 a4 : Int) (b0 : Bool) (b1 b2 b3 b4 : Int) (c0 : Bool) (c1 c2 c3 c4 : Int) : Bool := inv_added.c false (fun _ => true) a0 a1 a2 a3 a4 b0 b1 b2 b3 b4 c0 c1 c2 c3 c4
def inv_added (a0 : Bool) (a1 a2 a3 a4 : Int) (b0 : Bool) (b1 b2 b3 b4 : Int) (c0 : Bool) (c1 c2 c3 c4 : Int) : Bool × Int × Int × Int × Int × N5 := inv_added.c (false, 0, 0, 0, 0, false, 0, 0, 0, 0) id a0 a1 a2 a3 a4 b0 b1 b2 b3 b4 c0 c1 c2 c3 c4
def inv_added.F : FV := mkF (cP (cA (cP cB (cP (cI .i64) (cP (cI .i64) (cP (cI .u64) (cP (cI .u64) cU)))))) (cP (cA (cP cB (cP (cI .i64) (cP (cI .i64) (cP (cI .u64) (cP (cI .u64) cU)))))) (cP (cA (cP cB (cP (cI .i64) (cP (cI .i64) (cP (cI .u64) (cP (cI .u64) cU)))))) cU))) (fun | ((a0, (a1, (a2, (a3, (a4, ()))))), ((b0, (b1, (b2, (b3, (b4, ()))))), ((c0, (c1, (c2, (c3, (c4, ()))))), ()))) => inv_added.ok a0 a1 a2 a3 a4 b0 b1 b2 b3 b4 c0 c1 c2 c3 c4) (fun | ((a0, (a1, (a2, (a3, (a4, ()))))), ((b0, (b1, (b2, (b3, (b4, ()))))), ((c0, (c1, (c2, (c3, (c4, ()))))), ()))) => .agg #[.bool (inv_added a0 a1 a2 a3 a4 b0 b1 b2 b3 b4 c0 c1 c2 c3 c4).1, .int .i64 (inv_added a0 a1 a2 a3 a4 b0 b1 b2 b3 b4 c0 c1 c2 c3 c4).2.1, .int .i64 (inv_added a0 a1 a2 a3 a4 b0 b1 b2 b3 b4 c0 c1 c2 c3 c4).2.2.1, .int .u64 (inv_added a0 a1 a2 a3 a4 b0 b1 b2 b3 b4 c0 c1 c2 c3 c4).2.2.2.1, .int .u64 (inv_added a0 a1 a2 a3 a4 b0 b1 b2 b3 b4 c0 c1 c2 c3 c4).2.2.2.2.1, .bool (inv_added a0 a1 a2 a3 a4 b0 b1 b2 b3 b4 c0 c1 c2 c3 c4).2.2.2.2.2.1, .int .i64 (inv_added a0 a1 a2 a3 a4 b0 b1 b2 b3 b4 c0 c1 c2 c3 c4).2.2.2.2.2.2.1, .int .i64 (inv_added a0 a1 a2 a3 a4 b0 b1 b2 b3 b4 c0 c1 c2 c3 c4).2.2.2.2.2.2.2.1, .int .u64 (inv_added a0 a1 a2 a3 a4 b0 b1 b2 b3 b4 c0 c1 c2 c3 c4).2.2.2.2.2.2.2.2.1, .int .u64 (inv_added a0 a1 a2 a3 a4 b0 b1 b2 b3 b4 c0 c1 c2 c3 c4).2.2.2.2.2.2.2.2.2])
def L_inv_added : TL := (172, inv_added.F) :: L_inv_does
theorem inv_added.p0 {γ : Type} (k : Bool × Int × Int × Int × Int × N5 → γ) (a0 a1 a2 a3 a4 b0 b1 b2 b3 b4 c0 c1 c2 c3 c4 t1 t2 t3 t4 t5 t6 t7 t8) : inv_added.c0 false (fun _ => true) a0 a1 a2 a3 a4 b0 b1 b2 b3 b4 c0 c1 c2 c3 c4 t1 t2 t3 t4 t5 t6 t7 t8 = true → inv_added.c0 none (fun q => some (k q)) a0 a1 a2 a3 a4 b0 b1 b2 b3 b4 c0 c1 c2 c3 c4 t1 t2 t3 t4 t5 t6 t7 t8 = some (k (inv_added.c0 (false, 0, 0, 0, 0, false, 0, 0, 0, 0) id a0 a1 a2 a3 a4 b0 b1 b2 b3 b4 c0 c1 c2 c3 c4 t1 t2 t3 t4 t5 t6 t7 t8)) := by
  unfold inv_added.c0; (repeat' (first | (apply pn k) | (exact pn_none _ _) | (exact pn_leaf k _)))
theorem inv_added.p {γ : Type} (k : Bool × Int × Int × Int × Int × N5 → γ) (a0 : Bool) (a1 a2 a3 a4 : Int) (b0 : Bool) (b1 b2 b3 b4 : Int) (c0 : Bool) (c1 c2 c3 c4 : Int) (h : inv_added.ok a0 a1 a2 a3 a4 b0 b1 b2 b3 b4 c0 c1 c2 c3 c4 = true) : inv_added.c none (fun q => some (k q)) a0 a1 a2 a3 a4 b0 b1 b2 b3 b4 c0 c1 c2 c3 c4 = some (k (inv_added a0 a1 a2 a3 a4 b0 b1 b2 b3 b4 c0 c1 c2 c3 c4)) := by
  revert h; unfold inv_added.ok inv_added inv_added.c; exact fun h => inv_added.p0 k a0 a1 a2 a3 a4 b0 b1 b2 b3 b4 c0 c1 c2 c3 c4 _ _ _ _ _ _ _ _ h
theorem inv_added.r (a0 : Bool) (a1 a2 a3 a4 : Int) (b0 : Bool) (b1 b2 b3 b4 : Int) (c0 : Bool) (c1 c2 c3 c4 : Int) : runF P G (tab L_inv_does) { merge := true, glue := true } 60 Tryz.f172 [.agg #[.bool a0, .int .i64 a1, .int .i64 a2, .int .u64 a3, .int .u64 a4], .agg #[.bool b0, .int .i64 b1, .int .i64 b2, .int .u64 b3, .int .u64 b4], .agg #[.bool c0, .int .i64 c1, .int .i64 c2, .int .u64 c3, .int .u64 c4]] = inv_added.c none (fun q => some (.agg #[.bool (q).1, .int .i64 (q).2.1, .int .i64 (q).2.2.1, .int .u64 (q).2.2.2.1, .int .u64 (q).2.2.2.2.1, .bool (q).2.2.2.2.2.1, .int .i64 (q).2.2.2.2.2.2.1, .int .i64 (q).2.2.2.2.2.2.2.1, .int .u64 (q).2.2.2.2.2.2.2.2.1, .int .u64 (q).2.2.2.2.2.2.2.2.2] : Value)) a0 a1 a2 a3 a4 b0 b1 b2 b3 b4 c0 c1 c2 c3 c4 := by kernel_rfl
theorem inv_added.t : TabOK P G (tab L_inv_added) :=
  TabOK_mkL C inv_does.t Tryz.func172 (by kernel_rfl) { merge := true, glue := true } (fun c _ => LoopsOK_nil c) 60 (by
    rintro ⟨⟨a0, ⟨a1, ⟨a2, ⟨a3, ⟨a4, ⟨⟩⟩⟩⟩⟩⟩, ⟨⟨b0, ⟨b1, ⟨b2, ⟨b3, ⟨b4, ⟨⟩⟩⟩⟩⟩⟩, ⟨⟨c0, ⟨c1, ⟨c2, ⟨c3, ⟨c4, ⟨⟩⟩⟩⟩⟩⟩, ⟨⟩⟩⟩⟩ h
    exact (inv_added.r a0 a1 a2 a3 a4 b0 b1 b2 b3 b4 c0 c1 c2 c3 c4).trans (inv_added.p (fun q => (.agg #[.bool (q).1, .int .i64 (q).2.1, .int .i64 (q).2.2.1, .int .u64 (q).2.2.2.1, .int .u64 (q).2.2.2.2.1, .bool (q).2.2.2.2.2.1, .int .i64 (q).2.2.2.2.2.2.1, .int .i64 (q).2.2.2.2.2.2.2.1, .int .u64 (q).2.2.2.2.2.2.2.2.1, .int .u64 (q).2.2.2.2.2.2.2.2.2] : Value)) a0 a1 a2 a3 a4 b0 b1 b2 b3 b4 c0 c1 c2 c3 c4 h))

def inv_below.c0 {γ : Type} (n : γ) (k : Bool × Int × Int × Int × Int × N5 → γ) (a0 : Bool) (a1 a2 a3 a4 : Int) (b0 : Bool) (b1 b2 b3 b4 : Int) (t1 : Bool) (t2 : Int) (t3 : N5) (t4 : Bool) (t5 : Int) (t6 : N5) (t7 : Bool) (t8 t9 : N5) : γ := bif t1
  then k (num_Bot.1, num_Bot.2.1, num_Bot.2.2.1, num_Bot.2.2.2.1, num_Bot.2.2.2.2, num_Bot.1, num_Bot.2.1, num_Bot.2.2.1, num_Bot.2.2.2.1, num_Bot.2.2.2.2)
  else bif t4
   then bif t7
    then k (t8.1, t8.2.1, t8.2.2.1, t8.2.2.2.1, t8.2.2.2.2, t9.1, t9.2.1, t9.2.2.1, t9.2.2.2.1, t9.2.2.2.2)
    else n
   else n
def inv_below.c {γ : Type} (n : γ) (k : Bool × Int × Int × Int × Int × N5 → γ) (a0 : Bool) (a1 a2 a3 a4 : Int) (b0 : Bool) (b1 b2 b3 b4 : Int) : γ := let t1 := bif b2 == -9223372036854775808 then true else a1 == 9223372036854775807; let t2 := IntKind.i64.wrap (b2 - 1); let t3 := inv_to t2; let t4 := num_Meet.ok a0 a1 a2 a3 a4 t3.1 t3.2.1 t3.2.2.1 t3.2.2.2.1 t3.2.2.2.2; let t5 := IntKind.i64.wrap (a1 + 1); let t6 := inv_from t5; let t7 := num_Meet.ok b0 b1 b2 b3 b4 t6.1 t6.2.1 t6.2.2.1 t6.2.2.2.1 t6.2.2.2.2; let t8 := num_Meet a0 a1 a2 a3 a4 t3.1 t3.2.1 t3.2.2.1 t3.2.2.2.1 t3.2.2.2.2; let t9 := num_Meet b0 b1 b2 b3 b4 t6.1 t6.2.1 t6.2.2.1 t6.2.2.2.1 t6.2.2.2.2; inv_below.c0 n k a0 a1 a2 a3 a4 b0 b1 b2 b3 b4 t1 t2 t3 t4 t5 t6 t7 t8 t9
def inv_below.ok (a0 : Bool) (a1 a2 a3 a4 : Int) (b0 : Bool) (b1 b2 b3 b4 : Int) : Bool := inv_below.c false (fun _ => true) a0 a1 a2 a3 a4 b0 b1 b2 b3 b4
def inv_below (a0 : Bool) (a1 a2 a3 a4 : Int) (b0 : Bool) (b1 b2 b3 b4 : Int) : Bool × Int × Int × Int × Int × N5 := inv_below.c (false, 0, 0, 0, 0, false, 0, 0, 0, 0) id a0 a1 a2 a3 a4 b0 b1 b2 b3 b4
def inv_below.F : FV := mkF (cP (cA (cP cB (cP (cI .i64) (cP (cI .i64) (cP (cI .u64) (cP (cI .u64) cU)))))) (cP (cA (cP cB (cP (cI .i64) (cP (cI .i64) (cP (cI .u64) (cP (cI .u64) cU)))))) cU)) (fun | ((a0, (a1, (a2, (a3, (a4, ()))))), ((b0, (b1, (b2, (b3, (b4, ()))))), ())) => inv_below.ok a0 a1 a2 a3 a4 b0 b1 b2 b3 b4) (fun | ((a0, (a1, (a2, (a3, (a4, ()))))), ((b0, (b1, (b2, (b3, (b4, ()))))), ())) => .agg #[.bool (inv_below a0 a1 a2 a3 a4 b0 b1 b2 b3 b4).1, .int .i64 (inv_below a0 a1 a2 a3 a4 b0 b1 b2 b3 b4).2.1, .int .i64 (inv_below a0 a1 a2 a3 a4 b0 b1 b2 b3 b4).2.2.1, .int .u64 (inv_below a0 a1 a2 a3 a4 b0 b1 b2 b3 b4).2.2.2.1, .int .u64 (inv_below a0 a1 a2 a3 a4 b0 b1 b2 b3 b4).2.2.2.2.1, .bool (inv_below a0 a1 a2 a3 a4 b0 b1 b2 b3 b4).2.2.2.2.2.1, .int .i64 (inv_below a0 a1 a2 a3 a4 b0 b1 b2 b3 b4).2.2.2.2.2.2.1, .int .i64 (inv_below a0 a1 a2 a3 a4 b0 b1 b2 b3 b4).2.2.2.2.2.2.2.1, .int .u64 (inv_below a0 a1 a2 a3 a4 b0 b1 b2 b3 b4).2.2.2.2.2.2.2.2.1, .int .u64 (inv_below a0 a1 a2 a3 a4 b0 b1 b2 b3 b4).2.2.2.2.2.2.2.2.2])
def L_inv_below : TL := (191, inv_below.F) :: L_inv_added
theorem inv_below.p0 {γ : Type} (k : Bool × Int × Int × Int × Int × N5 → γ) (a0 a1 a2 a3 a4 b0 b1 b2 b3 b4 t1 t2 t3 t4 t5 t6 t7 t8 t9) : inv_below.c0 false (fun _ => true) a0 a1 a2 a3 a4 b0 b1 b2 b3 b4 t1 t2 t3 t4 t5 t6 t7 t8 t9 = true → inv_below.c0 none (fun q => some (k q)) a0 a1 a2 a3 a4 b0 b1 b2 b3 b4 t1 t2 t3 t4 t5 t6 t7 t8 t9 = some (k (inv_below.c0 (false, 0, 0, 0, 0, false, 0, 0, 0, 0) id a0 a1 a2 a3 a4 b0 b1 b2 b3 b4 t1 t2 t3 t4 t5 t6 t7 t8 t9)) := by
  unfold inv_below.c0; (repeat' (first | (apply pn k) | (exact pn_none _ _) | (exact pn_leaf k _)))
theorem inv_below.p {γ : Type} (k : Bool × Int × Int × Int × Int × N5 → γ) (a0 : Bool) (a1 a2 a3 a4 : Int) (b0 : Bool) (b1 b2 b3 b4 : Int) (h : inv_below.ok a0 a1 a2 a3 a4 b0 b1 b2 b3 b4 = true) : inv_below.c none (fun q => some (k q)) a0 a1 a2 a3 a4 b0 b1 b2 b3 b4 = some (k (inv_below a0 a1 a2 a3 a4 b0 b1 b2 b3 b4)) := by
  revert h; unfold inv_below.ok inv_below inv_below.c; exact fun h => inv_below.p0 k a0 a1 a2 a3 a4 b0 b1 b2 b3 b4 _ _ _ _ _ _ _ _ _ h
theorem inv_below.r (a0 : Bool) (a1 a2 a3 a4 : Int) (b0 : Bool) (b1 b2 b3 b4 : Int) : runF P G (tab L_inv_added) { merge := true, glue := true } 60 Tryz.f191 [.agg #[.bool a0, .int .i64 a1, .int .i64 a2, .int .u64 a3, .int .u64 a4], .agg #[.bool b0, .int .i64 b1, .int .i64 b2, .int .u64 b3, .int .u64 b4]] = inv_below.c none (fun q => some (.agg #[.bool (q).1, .int .i64 (q).2.1, .int .i64 (q).2.2.1, .int .u64 (q).2.2.2.1, .int .u64 (q).2.2.2.2.1, .bool (q).2.2.2.2.2.1, .int .i64 (q).2.2.2.2.2.2.1, .int .i64 (q).2.2.2.2.2.2.2.1, .int .u64 (q).2.2.2.2.2.2.2.2.1, .int .u64 (q).2.2.2.2.2.2.2.2.2] : Value)) a0 a1 a2 a3 a4 b0 b1 b2 b3 b4 := by kernel_rfl
theorem inv_below.t : TabOK P G (tab L_inv_below) :=
  TabOK_mkL C inv_added.t Tryz.func191 (by kernel_rfl) { merge := true, glue := true } (fun c _ => LoopsOK_nil c) 60 (by
    rintro ⟨⟨a0, ⟨a1, ⟨a2, ⟨a3, ⟨a4, ⟨⟩⟩⟩⟩⟩⟩, ⟨⟨b0, ⟨b1, ⟨b2, ⟨b3, ⟨b4, ⟨⟩⟩⟩⟩⟩⟩, ⟨⟩⟩⟩ h
    exact (inv_below.r a0 a1 a2 a3 a4 b0 b1 b2 b3 b4).trans (inv_below.p (fun q => (.agg #[.bool (q).1, .int .i64 (q).2.1, .int .i64 (q).2.2.1, .int .u64 (q).2.2.2.1, .int .u64 (q).2.2.2.2.1, .bool (q).2.2.2.2.2.1, .int .i64 (q).2.2.2.2.2.2.1, .int .i64 (q).2.2.2.2.2.2.2.1, .int .u64 (q).2.2.2.2.2.2.2.2.1, .int .u64 (q).2.2.2.2.2.2.2.2.2] : Value)) a0 a1 a2 a3 a4 b0 b1 b2 b3 b4 h))

def inv_upTo.c0 {γ : Type} (n : γ) (k : Bool × Int × Int × Int × Int × N5 → γ) (a0 : Bool) (a1 a2 a3 a4 : Int) (b0 : Bool) (b1 b2 b3 b4 : Int) (t1 : N5) (t2 : Bool) (t3 : N5) (t4 : Bool) (t5 t6 : N5) : γ := bif t2
  then bif t4
   then k (t5.1, t5.2.1, t5.2.2.1, t5.2.2.2.1, t5.2.2.2.2, t6.1, t6.2.1, t6.2.2.1, t6.2.2.2.1, t6.2.2.2.2)
   else n
  else n
def inv_upTo.c {γ : Type} (n : γ) (k : Bool × Int × Int × Int × Int × N5 → γ) (a0 : Bool) (a1 a2 a3 a4 : Int) (b0 : Bool) (b1 b2 b3 b4 : Int) : γ := let t1 := inv_to b2; let t2 := num_Meet.ok a0 a1 a2 a3 a4 t1.1 t1.2.1 t1.2.2.1 t1.2.2.2.1 t1.2.2.2.2; let t3 := inv_from a1; let t4 := num_Meet.ok b0 b1 b2 b3 b4 t3.1 t3.2.1 t3.2.2.1 t3.2.2.2.1 t3.2.2.2.2; let t5 := num_Meet a0 a1 a2 a3 a4 t1.1 t1.2.1 t1.2.2.1 t1.2.2.2.1 t1.2.2.2.2; let t6 := num_Meet b0 b1 b2 b3 b4 t3.1 t3.2.1 t3.2.2.1 t3.2.2.2.1 t3.2.2.2.2; inv_upTo.c0 n k a0 a1 a2 a3 a4 b0 b1 b2 b3 b4 t1 t2 t3 t4 t5 t6
def inv_upTo.ok (a0 : Bool) (a1 a2 a3 a4 : Int) (b0 : Bool) (b1 b2 b3 b4 : Int) : Bool := inv_upTo.c false (fun _ => true) a0 a1 a2 a3 a4 b0 b1 b2 b3 b4
def inv_upTo (a0 : Bool) (a1 a2 a3 a4 : Int) (b0 : Bool) (b1 b2 b3 b4 : Int) : Bool × Int × Int × Int × Int × N5 := inv_upTo.c (false, 0, 0, 0, 0, false, 0, 0, 0, 0) id a0 a1 a2 a3 a4 b0 b1 b2 b3 b4
def inv_upTo.F : FV := mkF (cP (cA (cP cB (cP (cI .i64) (cP (cI .i64) (cP (cI .u64) (cP (cI .u64) cU)))))) (cP (cA (cP cB (cP (cI .i64) (cP (cI .i64) (cP (cI .u64) (cP (cI .u64) cU)))))) cU)) (fun | ((a0, (a1, (a2, (a3, (a4, ()))))), ((b0, (b1, (b2, (b3, (b4, ()))))), ())) => inv_upTo.ok a0 a1 a2 a3 a4 b0 b1 b2 b3 b4) (fun | ((a0, (a1, (a2, (a3, (a4, ()))))), ((b0, (b1, (b2, (b3, (b4, ()))))), ())) => .agg #[.bool (inv_upTo a0 a1 a2 a3 a4 b0 b1 b2 b3 b4).1, .int .i64 (inv_upTo a0 a1 a2 a3 a4 b0 b1 b2 b3 b4).2.1, .int .i64 (inv_upTo a0 a1 a2 a3 a4 b0 b1 b2 b3 b4).2.2.1, .int .u64 (inv_upTo a0 a1 a2 a3 a4 b0 b1 b2 b3 b4).2.2.2.1, .int .u64 (inv_upTo a0 a1 a2 a3 a4 b0 b1 b2 b3 b4).2.2.2.2.1, .bool (inv_upTo a0 a1 a2 a3 a4 b0 b1 b2 b3 b4).2.2.2.2.2.1, .int .i64 (inv_upTo a0 a1 a2 a3 a4 b0 b1 b2 b3 b4).2.2.2.2.2.2.1, .int .i64 (inv_upTo a0 a1 a2 a3 a4 b0 b1 b2 b3 b4).2.2.2.2.2.2.2.1, .int .u64 (inv_upTo a0 a1 a2 a3 a4 b0 b1 b2 b3 b4).2.2.2.2.2.2.2.2.1, .int .u64 (inv_upTo a0 a1 a2 a3 a4 b0 b1 b2 b3 b4).2.2.2.2.2.2.2.2.2])
def L_inv_upTo : TL := (192, inv_upTo.F) :: L_inv_below
theorem inv_upTo.p0 {γ : Type} (k : Bool × Int × Int × Int × Int × N5 → γ) (a0 a1 a2 a3 a4 b0 b1 b2 b3 b4 t1 t2 t3 t4 t5 t6) : inv_upTo.c0 false (fun _ => true) a0 a1 a2 a3 a4 b0 b1 b2 b3 b4 t1 t2 t3 t4 t5 t6 = true → inv_upTo.c0 none (fun q => some (k q)) a0 a1 a2 a3 a4 b0 b1 b2 b3 b4 t1 t2 t3 t4 t5 t6 = some (k (inv_upTo.c0 (false, 0, 0, 0, 0, false, 0, 0, 0, 0) id a0 a1 a2 a3 a4 b0 b1 b2 b3 b4 t1 t2 t3 t4 t5 t6)) := by
  unfold inv_upTo.c0; (repeat' (first | (apply pn k) | (exact pn_none _ _) | (exact pn_leaf k _)))
theorem inv_upTo.p {γ : Type} (k : Bool × Int × Int × Int × Int × N5 → γ) (a0 : Bool) (a1 a2 a3 a4 : Int) (b0 : Bool) (b1 b2 b3 b4 : Int) (h : inv_upTo.ok a0 a1 a2 a3 a4 b0 b1 b2 b3 b4 = true) : inv_upTo.c none (fun q => some (k q)) a0 a1 a2 a3 a4 b0 b1 b2 b3 b4 = some (k (inv_upTo a0 a1 a2 a3 a4 b0 b1 b2 b3 b4)) := by
  revert h; unfold inv_upTo.ok inv_upTo inv_upTo.c; exact fun h => inv_upTo.p0 k a0 a1 a2 a3 a4 b0 b1 b2 b3 b4 _ _ _ _ _ _ h
theorem inv_upTo.r (a0 : Bool) (a1 a2 a3 a4 : Int) (b0 : Bool) (b1 b2 b3 b4 : Int) : runF P G (tab L_inv_below) { merge := true, glue := true } 60 Tryz.f192 [.agg #[.bool a0, .int .i64 a1, .int .i64 a2, .int .u64 a3, .int .u64 a4], .agg #[.bool b0, .int .i64 b1, .int .i64 b2, .int .u64 b3, .int .u64 b4]] = inv_upTo.c none (fun q => some (.agg #[.bool (q).1, .int .i64 (q).2.1, .int .i64 (q).2.2.1, .int .u64 (q).2.2.2.1, .int .u64 (q).2.2.2.2.1, .bool (q).2.2.2.2.2.1, .int .i64 (q).2.2.2.2.2.2.1, .int .i64 (q).2.2.2.2.2.2.2.1, .int .u64 (q).2.2.2.2.2.2.2.2.1, .int .u64 (q).2.2.2.2.2.2.2.2.2] : Value)) a0 a1 a2 a3 a4 b0 b1 b2 b3 b4 := by kernel_rfl
theorem inv_upTo.t : TabOK P G (tab L_inv_upTo) :=
  TabOK_mkL C inv_below.t Tryz.func192 (by kernel_rfl) { merge := true, glue := true } (fun c _ => LoopsOK_nil c) 60 (by
    rintro ⟨⟨a0, ⟨a1, ⟨a2, ⟨a3, ⟨a4, ⟨⟩⟩⟩⟩⟩⟩, ⟨⟨b0, ⟨b1, ⟨b2, ⟨b3, ⟨b4, ⟨⟩⟩⟩⟩⟩⟩, ⟨⟩⟩⟩ h
    exact (inv_upTo.r a0 a1 a2 a3 a4 b0 b1 b2 b3 b4).trans (inv_upTo.p (fun q => (.agg #[.bool (q).1, .int .i64 (q).2.1, .int .i64 (q).2.2.1, .int .u64 (q).2.2.2.1, .int .u64 (q).2.2.2.2.1, .bool (q).2.2.2.2.2.1, .int .i64 (q).2.2.2.2.2.2.1, .int .i64 (q).2.2.2.2.2.2.2.1, .int .u64 (q).2.2.2.2.2.2.2.2.1, .int .u64 (q).2.2.2.2.2.2.2.2.2] : Value)) a0 a1 a2 a3 a4 b0 b1 b2 b3 b4 h))

def inv_without.c0 {γ : Type} (n : γ) (k : N5 → γ) (a0 : Bool) (a1 a2 a3 a4 : Int) (b0 : Bool) (b1 b2 b3 b4 : Int) (t1 : Int × Bool) (t2 : Int) (t3 : N5) (t4 : Bool) (t5 : N5) (t6 : Bool) (t7 : Int) (t8 : N5) (t9 : Bool) (t10 : N5) (t11 t12 : Bool) (t13 : N5) : γ := bif !t1.2
  then k (a0, a1, a2, a3, a4)
  else bif a1 == t1.1
   then bif t1.1 == 9223372036854775807
    then k (num_Bot.1, num_Bot.2.1, num_Bot.2.2.1, num_Bot.2.2.2.1, num_Bot.2.2.2.2)
    else bif t4
     then bif t6
      then bif t1.1 == -9223372036854775808
       then k (num_Bot.1, num_Bot.2.1, num_Bot.2.2.1, num_Bot.2.2.2.1, num_Bot.2.2.2.2)
       else bif t9
        then k (t10.1, t10.2.1, t10.2.2.1, t10.2.2.2.1, t10.2.2.2.2)
        else n
      else k (t5.1, t5.2.1, t5.2.2.1, t5.2.2.2.1, t5.2.2.2.2)
     else n
   else bif t11
    then bif t1.1 == -9223372036854775808
     then k (num_Bot.1, num_Bot.2.1, num_Bot.2.2.1, num_Bot.2.2.2.1, num_Bot.2.2.2.2)
     else bif t12
      then k (t13.1, t13.2.1, t13.2.2.1, t13.2.2.2.1, t13.2.2.2.2)
      else n
    else k (a0, a1, a2, a3, a4)
def inv_without.c {γ : Type} (n : γ) (k : N5 → γ) (a0 : Bool) (a1 a2 a3 a4 : Int) (b0 : Bool) (b1 b2 b3 b4 : Int) : γ := let t1 := inv_one b0 b1 b2 b3 b4; let t2 := IntKind.i64.wrap (t1.1 + 1); let t3 := inv_from t2; let t4 := num_Meet.ok a0 a1 a2 a3 a4 t3.1 t3.2.1 t3.2.2.1 t3.2.2.2.1 t3.2.2.2.2; let t5 := num_Meet a0 a1 a2 a3 a4 t3.1 t3.2.1 t3.2.2.1 t3.2.2.2.1 t3.2.2.2.2; let t6 := bif !t5.1 then t5.2.2.1 == t1.1 else false; let t7 := IntKind.i64.wrap (t1.1 - 1); let t8 := inv_to t7; let t9 := num_Meet.ok t5.1 t5.2.1 t5.2.2.1 t5.2.2.2.1 t5.2.2.2.2 t8.1 t8.2.1 t8.2.2.1 t8.2.2.2.1 t8.2.2.2.2; let t10 := num_Meet t5.1 t5.2.1 t5.2.2.1 t5.2.2.2.1 t5.2.2.2.2 t8.1 t8.2.1 t8.2.2.1 t8.2.2.2.1 t8.2.2.2.2; let t11 := bif !a0 then a2 == t1.1 else false; let t12 := num_Meet.ok a0 a1 a2 a3 a4 t8.1 t8.2.1 t8.2.2.1 t8.2.2.2.1 t8.2.2.2.2; let t13 := num_Meet a0 a1 a2 a3 a4 t8.1 t8.2.1 t8.2.2.1 t8.2.2.2.1 t8.2.2.2.2; inv_without.c0 n k a0 a1 a2 a3 a4 b0 b1 b2 b3 b4 t1 t2 t3 t4 t5 t6 t7 t8 t9 t10 t11 t12 t13
def inv_without.ok (a0 : Bool) (a1 a2 a3 a4 : Int) (b0 : Bool) (b1 b2 b3 b4 : Int) : Bool := inv_without.c false (fun _ => true) a0 a1 a2 a3 a4 b0 b1 b2 b3 b4
def inv_without (a0 : Bool) (a1 a2 a3 a4 : Int) (b0 : Bool) (b1 b2 b3 b4 : Int) : N5 := inv_without.c (false, 0, 0, 0, 0) id a0 a1 a2 a3 a4 b0 b1 b2 b3 b4
def inv_without.F : FV := mkF (cP (cA (cP cB (cP (cI .i64) (cP (cI .i64) (cP (cI .u64) (cP (cI .u64) cU)))))) (cP (cA (cP cB (cP (cI .i64) (cP (cI .i64) (cP (cI .u64) (cP (cI .u64) cU)))))) cU)) (fun | ((a0, (a1, (a2, (a3, (a4, ()))))), ((b0, (b1, (b2, (b3, (b4, ()))))), ())) => inv_without.ok a0 a1 a2 a3 a4 b0 b1 b2 b3 b4) (fun | ((a0, (a1, (a2, (a3, (a4, ()))))), ((b0, (b1, (b2, (b3, (b4, ()))))), ())) => .agg #[.bool (inv_without a0 a1 a2 a3 a4 b0 b1 b2 b3 b4).1, .int .i64 (inv_without a0 a1 a2 a3 a4 b0 b1 b2 b3 b4).2.1, .int .i64 (inv_without a0 a1 a2 a3 a4 b0 b1 b2 b3 b4).2.2.1, .int .u64 (inv_without a0 a1 a2 a3 a4 b0 b1 b2 b3 b4).2.2.2.1, .int .u64 (inv_without a0 a1 a2 a3 a4 b0 b1 b2 b3 b4).2.2.2.2])
def L_inv_without : TL := (196, inv_without.F) :: L_inv_upTo
theorem inv_without.p0 {γ : Type} (k : N5 → γ) (a0 a1 a2 a3 a4 b0 b1 b2 b3 b4 t1 t2 t3 t4 t5 t6 t7 t8 t9 t10 t11 t12 t13) : inv_without.c0 false (fun _ => true) a0 a1 a2 a3 a4 b0 b1 b2 b3 b4 t1 t2 t3 t4 t5 t6 t7 t8 t9 t10 t11 t12 t13 = true → inv_without.c0 none (fun q => some (k q)) a0 a1 a2 a3 a4 b0 b1 b2 b3 b4 t1 t2 t3 t4 t5 t6 t7 t8 t9 t10 t11 t12 t13 = some (k (inv_without.c0 (false, 0, 0, 0, 0) id a0 a1 a2 a3 a4 b0 b1 b2 b3 b4 t1 t2 t3 t4 t5 t6 t7 t8 t9 t10 t11 t12 t13)) := by
  unfold inv_without.c0; (repeat' (first | (apply pn k) | (exact pn_none _ _) | (exact pn_leaf k _)))
theorem inv_without.p {γ : Type} (k : N5 → γ) (a0 : Bool) (a1 a2 a3 a4 : Int) (b0 : Bool) (b1 b2 b3 b4 : Int) (h : inv_without.ok a0 a1 a2 a3 a4 b0 b1 b2 b3 b4 = true) : inv_without.c none (fun q => some (k q)) a0 a1 a2 a3 a4 b0 b1 b2 b3 b4 = some (k (inv_without a0 a1 a2 a3 a4 b0 b1 b2 b3 b4)) := by
  revert h; unfold inv_without.ok inv_without inv_without.c; exact fun h => inv_without.p0 k a0 a1 a2 a3 a4 b0 b1 b2 b3 b4 _ _ _ _ _ _ _ _ _ _ _ _ _ h
theorem inv_without.r (a0 : Bool) (a1 a2 a3 a4 : Int) (b0 : Bool) (b1 b2 b3 b4 : Int) : runF P G (tab L_inv_upTo) { merge := true, glue := true } 60 Tryz.f196 [.agg #[.bool a0, .int .i64 a1, .int .i64 a2, .int .u64 a3, .int .u64 a4], .agg #[.bool b0, .int .i64 b1, .int .i64 b2, .int .u64 b3, .int .u64 b4]] = inv_without.c none (fun q => some (.agg #[.bool (q).1, .int .i64 (q).2.1, .int .i64 (q).2.2.1, .int .u64 (q).2.2.2.1, .int .u64 (q).2.2.2.2] : Value)) a0 a1 a2 a3 a4 b0 b1 b2 b3 b4 := by kernel_rfl
theorem inv_without.t : TabOK P G (tab L_inv_without) :=
  TabOK_mkL C inv_upTo.t Tryz.func196 (by kernel_rfl) { merge := true, glue := true } (fun c _ => LoopsOK_nil c) 60 (by
    rintro ⟨⟨a0, ⟨a1, ⟨a2, ⟨a3, ⟨a4, ⟨⟩⟩⟩⟩⟩⟩, ⟨⟨b0, ⟨b1, ⟨b2, ⟨b3, ⟨b4, ⟨⟩⟩⟩⟩⟩⟩, ⟨⟩⟩⟩ h
    exact (inv_without.r a0 a1 a2 a3 a4 b0 b1 b2 b3 b4).trans (inv_without.p (fun q => (.agg #[.bool (q).1, .int .i64 (q).2.1, .int .i64 (q).2.2.1, .int .u64 (q).2.2.2.1, .int .u64 (q).2.2.2.2] : Value)) a0 a1 a2 a3 a4 b0 b1 b2 b3 b4 h))

def inv_sides1.c0 {γ : Type} (n : γ) (k : Bool × Int × Int × Int × Int × N5 → γ) (a0 : Bool) (a1 a2 a3 a4 : Int) (b0 : Bool) (b1 b2 b3 b4 : Int) (t1 : Bool) (t2 : N5) : γ := bif t1
  then bif t1
   then k (t2.1, t2.2.1, t2.2.2.1, t2.2.2.2.1, t2.2.2.2.2, t2.1, t2.2.1, t2.2.2.1, t2.2.2.2.1, t2.2.2.2.2)
   else n
  else n
def inv_sides1.c {γ : Type} (n : γ) (k : Bool × Int × Int × Int × Int × N5 → γ) (a0 : Bool) (a1 a2 a3 a4 : Int) (b0 : Bool) (b1 b2 b3 b4 : Int) : γ := let t1 := num_Meet.ok a0 a1 a2 a3 a4 b0 b1 b2 b3 b4; let t2 := num_Meet a0 a1 a2 a3 a4 b0 b1 b2 b3 b4; inv_sides1.c0 n k a0 a1 a2 a3 a4 b0 b1 b2 b3 b4 t1 t2
def inv_sides1.ok (a0 : Bool) (a1 a2 a3 a4 : Int) (b0 : Bool) (b1 b2 b3 b4 : Int) : Bool := inv_sides1.c false (fun _ => true) a0 a1 a2 a3 a4 b0 b1 b2 b3 b4
def inv_sides1 (a0 : Bool) (a1 a2 a3 a4 : Int) (b0 : Bool) (b1 b2 b3 b4 : Int) : Bool × Int × Int × Int × Int × N5 := inv_sides1.c (false, 0, 0, 0, 0, false, 0, 0, 0, 0) id a0 a1 a2 a3 a4 b0 b1 b2 b3 b4
def inv_sides1.F : FV := mkF (cP (cA (cP cB (cP (cI .i64) (cP (cI .i64) (cP (cI .u64) (cP (cI .u64) cU)))))) (cP (cA (cP cB (cP (cI .i64) (cP (cI .i64) (cP (cI .u64) (cP (cI .u64) cU)))))) cU)) (fun | ((a0, (a1, (a2, (a3, (a4, ()))))), ((b0, (b1, (b2, (b3, (b4, ()))))), ())) => inv_sides1.ok a0 a1 a2 a3 a4 b0 b1 b2 b3 b4) (fun | ((a0, (a1, (a2, (a3, (a4, ()))))), ((b0, (b1, (b2, (b3, (b4, ()))))), ())) => .agg #[.bool (inv_sides1 a0 a1 a2 a3 a4 b0 b1 b2 b3 b4).1, .int .i64 (inv_sides1 a0 a1 a2 a3 a4 b0 b1 b2 b3 b4).2.1, .int .i64 (inv_sides1 a0 a1 a2 a3 a4 b0 b1 b2 b3 b4).2.2.1, .int .u64 (inv_sides1 a0 a1 a2 a3 a4 b0 b1 b2 b3 b4).2.2.2.1, .int .u64 (inv_sides1 a0 a1 a2 a3 a4 b0 b1 b2 b3 b4).2.2.2.2.1, .bool (inv_sides1 a0 a1 a2 a3 a4 b0 b1 b2 b3 b4).2.2.2.2.2.1, .int .i64 (inv_sides1 a0 a1 a2 a3 a4 b0 b1 b2 b3 b4).2.2.2.2.2.2.1, .int .i64 (inv_sides1 a0 a1 a2 a3 a4 b0 b1 b2 b3 b4).2.2.2.2.2.2.2.1, .int .u64 (inv_sides1 a0 a1 a2 a3 a4 b0 b1 b2 b3 b4).2.2.2.2.2.2.2.2.1, .int .u64 (inv_sides1 a0 a1 a2 a3 a4 b0 b1 b2 b3 b4).2.2.2.2.2.2.2.2.2])
def L_inv_sides1 : TL := (194, inv_sides1.F) :: L_inv_without
theorem inv_sides1.p0 {γ : Type} (k : Bool × Int × Int × Int × Int × N5 → γ) (a0 a1 a2 a3 a4 b0 b1 b2 b3 b4 t1 t2) : inv_sides1.c0 false (fun _ => true) a0 a1 a2 a3 a4 b0 b1 b2 b3 b4 t1 t2 = true → inv_sides1.c0 none (fun q => some (k q)) a0 a1 a2 a3 a4 b0 b1 b2 b3 b4 t1 t2 = some (k (inv_sides1.c0 (false, 0, 0, 0, 0, false, 0, 0, 0, 0) id a0 a1 a2 a3 a4 b0 b1 b2 b3 b4 t1 t2)) := by
  unfold inv_sides1.c0; (repeat' (first | (apply pn k) | (exact pn_none _ _) | (exact pn_leaf k _)))
theorem inv_sides1.p {γ : Type} (k : Bool × Int × Int × Int × Int × N5 → γ) (a0 : Bool) (a1 a2 a3 a4 : Int) (b0 : Bool) (b1 b2 b3 b4 : Int) (h : inv_sides1.ok a0 a1 a2 a3 a4 b0 b1 b2 b3 b4 = true) : inv_sides1.c none (fun q => some (k q)) a0 a1 a2 a3 a4 b0 b1 b2 b3 b4 = some (k (inv_sides1 a0 a1 a2 a3 a4 b0 b1 b2 b3 b4)) := by
  revert h; unfold inv_sides1.ok inv_sides1 inv_sides1.c; exact fun h => inv_sides1.p0 k a0 a1 a2 a3 a4 b0 b1 b2 b3 b4 _ _ h
theorem inv_sides1.r (a0 : Bool) (a1 a2 a3 a4 : Int) (b0 : Bool) (b1 b2 b3 b4 : Int) : runF P G (tab L_inv_without) { merge := true, glue := true } 60 Tryz.f194 [.agg #[.bool a0, .int .i64 a1, .int .i64 a2, .int .u64 a3, .int .u64 a4], .agg #[.bool b0, .int .i64 b1, .int .i64 b2, .int .u64 b3, .int .u64 b4]] = inv_sides1.c none (fun q => some (.agg #[.bool (q).1, .int .i64 (q).2.1, .int .i64 (q).2.2.1, .int .u64 (q).2.2.2.1, .int .u64 (q).2.2.2.2.1, .bool (q).2.2.2.2.2.1, .int .i64 (q).2.2.2.2.2.2.1, .int .i64 (q).2.2.2.2.2.2.2.1, .int .u64 (q).2.2.2.2.2.2.2.2.1, .int .u64 (q).2.2.2.2.2.2.2.2.2] : Value)) a0 a1 a2 a3 a4 b0 b1 b2 b3 b4 := by kernel_rfl
theorem inv_sides1.t : TabOK P G (tab L_inv_sides1) :=
  TabOK_mkL C inv_without.t Tryz.func194 (by kernel_rfl) { merge := true, glue := true } (fun c _ => LoopsOK_nil c) 60 (by
    rintro ⟨⟨a0, ⟨a1, ⟨a2, ⟨a3, ⟨a4, ⟨⟩⟩⟩⟩⟩⟩, ⟨⟨b0, ⟨b1, ⟨b2, ⟨b3, ⟨b4, ⟨⟩⟩⟩⟩⟩⟩, ⟨⟩⟩⟩ h
    exact (inv_sides1.r a0 a1 a2 a3 a4 b0 b1 b2 b3 b4).trans (inv_sides1.p (fun q => (.agg #[.bool (q).1, .int .i64 (q).2.1, .int .i64 (q).2.2.1, .int .u64 (q).2.2.2.1, .int .u64 (q).2.2.2.2.1, .bool (q).2.2.2.2.2.1, .int .i64 (q).2.2.2.2.2.2.1, .int .i64 (q).2.2.2.2.2.2.2.1, .int .u64 (q).2.2.2.2.2.2.2.2.1, .int .u64 (q).2.2.2.2.2.2.2.2.2] : Value)) a0 a1 a2 a3 a4 b0 b1 b2 b3 b4 h))

def inv_sides2.c0 {γ : Type} (n : γ) (k : Bool × Int × Int × Int × Int × N5 → γ) (a0 : Bool) (a1 a2 a3 a4 : Int) (b0 : Bool) (b1 b2 b3 b4 : Int) (t1 t2 : Bool) (t3 t4 : N5) : γ := bif t1
  then bif t2
   then k (t3.1, t3.2.1, t3.2.2.1, t3.2.2.2.1, t3.2.2.2.2, t4.1, t4.2.1, t4.2.2.1, t4.2.2.2.1, t4.2.2.2.2)
   else n
  else n
def inv_sides2.c {γ : Type} (n : γ) (k : Bool × Int × Int × Int × Int × N5 → γ) (a0 : Bool) (a1 a2 a3 a4 : Int) (b0 : Bool) (b1 b2 b3 b4 : Int) : γ := let t1 := inv_without.ok a0 a1 a2 a3 a4 b0 b1 b2 b3 b4; let t2 := inv_without.ok b0 b1 b2 b3 b4 a0 a1 a2 a3 a4; let t3 := inv_without a0 a1 a2 a3 a4 b0 b1 b2 b3 b4; let t4 := inv_without b0 b1 b2 b3 b4 a0 a1 a2 a3 a4; inv_sides2.c0 n k a0 a1 a2 a3 a4 b0 b1 b2 b3 b4 t1 t2 t3 t4
def inv_sides2.ok (a0 : Bool) (a1 a2 a3 a4 : Int) (b0 : Bool) (b1 b2 b3 b4 : Int) : Bool := inv_sides2.c false (fun _ => true) a0 a1 a2 a3 a4 b0 b1 b2 b3 b4
def inv_sides2 (a0 : Bool) (a1 a2 a3 a4 : Int) (b0 : Bool) (b1 b2 b3 b4 : Int) : Bool × Int × Int × Int × Int × N5 := inv_sides2.c (false, 0, 0, 0, 0, false, 0, 0, 0, 0) id a0 a1 a2 a3 a4 b0 b1 b2 b3 b4
def inv_sides2.F : FV := mkF (cP (cA (cP cB (cP (cI .i64) (cP (cI .i64) (cP (cI .u64) (cP (cI .u64) cU)))))) (cP (cA (cP cB (cP (cI .i64) (cP (cI .i64) (cP (cI .u64) (cP (cI .u64) cU)))))) cU)) (fun | ((a0, (a1, (a2, (a3, (a4, ()))))), ((b0, (b1, (b2, (b3, (b4, ()))))), ())) => inv_sides2.ok a0 a1 a2 a3 a4 b0 b1 b2 b3 b4) (fun | ((a0, (a1, (a2, (a3, (a4, ()))))), ((b0, (b1, (b2, (b3, (b4, ()))))), ())) => .agg #[.bool (inv_sides2 a0 a1 a2 a3 a4 b0 b1 b2 b3 b4).1, .int .i64 (inv_sides2 a0 a1 a2 a3 a4 b0 b1 b2 b3 b4).2.1, .int .i64 (inv_sides2 a0 a1 a2 a3 a4 b0 b1 b2 b3 b4).2.2.1, .int .u64 (inv_sides2 a0 a1 a2 a3 a4 b0 b1 b2 b3 b4).2.2.2.1, .int .u64 (inv_sides2 a0 a1 a2 a3 a4 b0 b1 b2 b3 b4).2.2.2.2.1, .bool (inv_sides2 a0 a1 a2 a3 a4 b0 b1 b2 b3 b4).2.2.2.2.2.1, .int .i64 (inv_sides2 a0 a1 a2 a3 a4 b0 b1 b2 b3 b4).2.2.2.2.2.2.1, .int .i64 (inv_sides2 a0 a1 a2 a3 a4 b0 b1 b2 b3 b4).2.2.2.2.2.2.2.1, .int .u64 (inv_sides2 a0 a1 a2 a3 a4 b0 b1 b2 b3 b4).2.2.2.2.2.2.2.2.1, .int .u64 (inv_sides2 a0 a1 a2 a3 a4 b0 b1 b2 b3 b4).2.2.2.2.2.2.2.2.2])
def L_inv_sides2 : TL := (195, inv_sides2.F) :: L_inv_sides1
theorem inv_sides2.p0 {γ : Type} (k : Bool × Int × Int × Int × Int × N5 → γ) (a0 a1 a2 a3 a4 b0 b1 b2 b3 b4 t1 t2 t3 t4) : inv_sides2.c0 false (fun _ => true) a0 a1 a2 a3 a4 b0 b1 b2 b3 b4 t1 t2 t3 t4 = true → inv_sides2.c0 none (fun q => some (k q)) a0 a1 a2 a3 a4 b0 b1 b2 b3 b4 t1 t2 t3 t4 = some (k (inv_sides2.c0 (false, 0, 0, 0, 0, false, 0, 0, 0, 0) id a0 a1 a2 a3 a4 b0 b1 b2 b3 b4 t1 t2 t3 t4)) := by
  unfold inv_sides2.c0; (repeat' (first | (apply pn k) | (exact pn_none _ _) | (exact pn_leaf k _)))
theorem inv_sides2.p {γ : Type} (k : Bool × Int × Int × Int × Int × N5 → γ) (a0 : Bool) (a1 a2 a3 a4 : Int) (b0 : Bool) (b1 b2 b3 b4 : Int) (h : inv_sides2.ok a0 a1 a2 a3 a4 b0 b1 b2 b3 b4 = true) : inv_sides2.c none (fun q => some (k q)) a0 a1 a2 a3 a4 b0 b1 b2 b3 b4 = some (k (inv_sides2 a0 a1 a2 a3 a4 b0 b1 b2 b3 b4)) := by
  revert h; unfold inv_sides2.ok inv_sides2 inv_sides2.c; exact fun h => inv_sides2.p0 k a0 a1 a2 a3 a4 b0 b1 b2 b3 b4 _ _ _ _ h
theorem inv_sides2.r (a0 : Bool) (a1 a2 a3 a4 : Int) (b0 : Bool) (b1 b2 b3 b4 : Int) : runF P G (tab L_inv_sides1) { merge := true, glue := true } 60 Tryz.f195 [.agg #[.bool a0, .int .i64 a1, .int .i64 a2, .int .u64 a3, .int .u64 a4], .agg #[.bool b0, .int .i64 b1, .int .i64 b2, .int .u64 b3, .int .u64 b4]] = inv_sides2.c none (fun q => some (.agg #[.bool (q).1, .int .i64 (q).2.1, .int .i64 (q).2.2.1, .int .u64 (q).2.2.2.1, .int .u64 (q).2.2.2.2.1, .bool (q).2.2.2.2.2.1, .int .i64 (q).2.2.2.2.2.2.1, .int .i64 (q).2.2.2.2.2.2.2.1, .int .u64 (q).2.2.2.2.2.2.2.2.1, .int .u64 (q).2.2.2.2.2.2.2.2.2] : Value)) a0 a1 a2 a3 a4 b0 b1 b2 b3 b4 := by kernel_rfl
theorem inv_sides2.t : TabOK P G (tab L_inv_sides2) :=
  TabOK_mkL C inv_sides1.t Tryz.func195 (by kernel_rfl) { merge := true, glue := true } (fun c _ => LoopsOK_nil c) 60 (by
    rintro ⟨⟨a0, ⟨a1, ⟨a2, ⟨a3, ⟨a4, ⟨⟩⟩⟩⟩⟩⟩, ⟨⟨b0, ⟨b1, ⟨b2, ⟨b3, ⟨b4, ⟨⟩⟩⟩⟩⟩⟩, ⟨⟩⟩⟩ h
    exact (inv_sides2.r a0 a1 a2 a3 a4 b0 b1 b2 b3 b4).trans (inv_sides2.p (fun q => (.agg #[.bool (q).1, .int .i64 (q).2.1, .int .i64 (q).2.2.1, .int .u64 (q).2.2.2.1, .int .u64 (q).2.2.2.2.1, .bool (q).2.2.2.2.2.1, .int .i64 (q).2.2.2.2.2.2.1, .int .i64 (q).2.2.2.2.2.2.2.1, .int .u64 (q).2.2.2.2.2.2.2.2.1, .int .u64 (q).2.2.2.2.2.2.2.2.2] : Value)) a0 a1 a2 a3 a4 b0 b1 b2 b3 b4 h))

def inv_Compare.c0 {γ : Type} (n : γ) (k : Bool × Int × Int × Int × Int × Bool × Int × Int × Int × Int × Int → γ) (a : Int) (b0 : Bool) (b1 b2 b3 b4 : Int) (c0 : Bool) (c1 c2 c3 c4 : Int) (t1 t2 : N5) (t3 t4 : Bool) (t5 t6 : Bool × Int × Int × Int × Int × N5) (t7 : Bool) (t8 t9 : Bool × Int × Int × Int × Int × N5) (t10 : Bool) (t11 t12 t13 : Bool × Int × Int × Int × Int × N5) (t14 : Bool) (t15 t16 t17 : Bool × Int × Int × Int × Int × N5) (t18 : Bool) (t19 t20 : Bool × Int × Int × Int × Int × N5) (t21 : Bool) (t22 t23 : Bool × Int × Int × Int × Int × N5) : γ := bif a == 8
  then bif t3
   then k (num_Bot.1, num_Bot.2.1, num_Bot.2.2.1, num_Bot.2.2.2.1, num_Bot.2.2.2.2, num_Bot.1, num_Bot.2.1, num_Bot.2.2.1, num_Bot.2.2.2.1, num_Bot.2.2.2.2, 0)
   else bif t4
    then k (t6.1, t6.2.1, t6.2.2.1, t6.2.2.2.1, t6.2.2.2.2.1, t6.2.2.2.2.2.1, t6.2.2.2.2.2.2.1, t6.2.2.2.2.2.2.2.1, t6.2.2.2.2.2.2.2.2.1, t6.2.2.2.2.2.2.2.2.2, 0)
    else n
  else bif a == 9
   then bif t3
    then k (num_Bot.1, num_Bot.2.1, num_Bot.2.2.1, num_Bot.2.2.2.1, num_Bot.2.2.2.2, num_Bot.1, num_Bot.2.1, num_Bot.2.2.1, num_Bot.2.2.2.1, num_Bot.2.2.2.2, 0)
    else bif t7
     then k (t9.1, t9.2.1, t9.2.2.1, t9.2.2.2.1, t9.2.2.2.2.1, t9.2.2.2.2.2.1, t9.2.2.2.2.2.2.1, t9.2.2.2.2.2.2.2.1, t9.2.2.2.2.2.2.2.2.1, t9.2.2.2.2.2.2.2.2.2, 0)
     else n
   else bif a == 10
    then bif t3
     then k (num_Bot.1, num_Bot.2.1, num_Bot.2.2.1, num_Bot.2.2.2.1, num_Bot.2.2.2.2, num_Bot.1, num_Bot.2.1, num_Bot.2.2.1, num_Bot.2.2.2.1, num_Bot.2.2.2.2, 0)
     else bif t10
      then k (t13.1, t13.2.1, t13.2.2.1, t13.2.2.2.1, t13.2.2.2.2.1, t13.2.2.2.2.2.1, t13.2.2.2.2.2.2.1, t13.2.2.2.2.2.2.2.1, t13.2.2.2.2.2.2.2.2.1, t13.2.2.2.2.2.2.2.2.2, 0)
      else n
    else bif a == 11
     then bif t3
      then k (num_Bot.1, num_Bot.2.1, num_Bot.2.2.1, num_Bot.2.2.2.1, num_Bot.2.2.2.2, num_Bot.1, num_Bot.2.1, num_Bot.2.2.1, num_Bot.2.2.2.1, num_Bot.2.2.2.2, 0)
      else bif t14
       then k (t17.1, t17.2.1, t17.2.2.1, t17.2.2.2.1, t17.2.2.2.2.1, t17.2.2.2.2.2.1, t17.2.2.2.2.2.2.1, t17.2.2.2.2.2.2.2.1, t17.2.2.2.2.2.2.2.2.1, t17.2.2.2.2.2.2.2.2.2, 0)
       else n
     else bif a == 12
      then bif t3
       then k (num_Bot.1, num_Bot.2.1, num_Bot.2.2.1, num_Bot.2.2.2.1, num_Bot.2.2.2.2, num_Bot.1, num_Bot.2.1, num_Bot.2.2.1, num_Bot.2.2.2.1, num_Bot.2.2.2.2, 0)
       else bif t18
        then k (t20.1, t20.2.1, t20.2.2.1, t20.2.2.2.1, t20.2.2.2.2.1, t20.2.2.2.2.2.1, t20.2.2.2.2.2.2.1, t20.2.2.2.2.2.2.2.1, t20.2.2.2.2.2.2.2.2.1, t20.2.2.2.2.2.2.2.2.2, 0)
        else n
      else bif a == 13
       then bif t3
        then k (num_Bot.1, num_Bot.2.1, num_Bot.2.2.1, num_Bot.2.2.2.1, num_Bot.2.2.2.2, num_Bot.1, num_Bot.2.1, num_Bot.2.2.1, num_Bot.2.2.2.1, num_Bot.2.2.2.2, 0)
        else bif t21
         then k (t23.1, t23.2.1, t23.2.2.1, t23.2.2.2.1, t23.2.2.2.2.1, t23.2.2.2.2.2.1, t23.2.2.2.2.2.2.1, t23.2.2.2.2.2.2.2.1, t23.2.2.2.2.2.2.2.2.1, t23.2.2.2.2.2.2.2.2.2, 0)
         else n
       else k (num_Bot.1, num_Bot.2.1, num_Bot.2.2.1, num_Bot.2.2.2.1, num_Bot.2.2.2.2, num_Bot.1, num_Bot.2.1, num_Bot.2.2.1, num_Bot.2.2.2.1, num_Bot.2.2.2.2, 1)
def inv_Compare.c {γ : Type} (n : γ) (k : Bool × Int × Int × Int × Int × Bool × Int × Int × Int × Int × Int → γ) (a : Int) (b0 : Bool) (b1 b2 b3 b4 : Int) (c0 : Bool) (c1 c2 c3 c4 : Int) : γ := let t1 := num_Norm b0 b1 b2 b3 b4; let t2 := num_Norm c0 c1 c2 c3 c4; let t3 := bif t1.1 then true else t2.1; let t4 := inv_below.ok t1.1 t1.2.1 t1.2.2.1 t1.2.2.2.1 t1.2.2.2.2 t2.1 t2.2.1 t2.2.2.1 t2.2.2.2.1 t2.2.2.2.2; let t5 := inv_below t1.1 t1.2.1 t1.2.2.1 t1.2.2.2.1 t1.2.2.2.2 t2.1 t2.2.1 t2.2.2.1 t2.2.2.2.1 t2.2.2.2.2; let t6 := inv_told t5.1 t5.2.1 t5.2.2.1 t5.2.2.2.1 t5.2.2.2.2.1 t5.2.2.2.2.2.1 t5.2.2.2.2.2.2.1 t5.2.2.2.2.2.2.2.1 t5.2.2.2.2.2.2.2.2.1 t5.2.2.2.2.2.2.2.2.2; let t7 := inv_upTo.ok t1.1 t1.2.1 t1.2.2.1 t1.2.2.2.1 t1.2.2.2.2 t2.1 t2.2.1 t2.2.2.1 t2.2.2.2.1 t2.2.2.2.2; let t8 := inv_upTo t1.1 t1.2.1 t1.2.2.1 t1.2.2.2.1 t1.2.2.2.2 t2.1 t2.2.1 t2.2.2.1 t2.2.2.2.1 t2.2.2.2.2; let t9 := inv_told t8.1 t8.2.1 t8.2.2.1 t8.2.2.2.1 t8.2.2.2.2.1 t8.2.2.2.2.2.1 t8.2.2.2.2.2.2.1 t8.2.2.2.2.2.2.2.1 t8.2.2.2.2.2.2.2.2.1 t8.2.2.2.2.2.2.2.2.2; let t10 := inv_below.ok t2.1 t2.2.1 t2.2.2.1 t2.2.2.2.1 t2.2.2.2.2 t1.1 t1.2.1 t1.2.2.1 t1.2.2.2.1 t1.2.2.2.2; let t11 := inv_below t2.1 t2.2.1 t2.2.2.1 t2.2.2.2.1 t2.2.2.2.2 t1.1 t1.2.1 t1.2.2.1 t1.2.2.2.1 t1.2.2.2.2; let t12 := inv_turned t11.1 t11.2.1 t11.2.2.1 t11.2.2.2.1 t11.2.2.2.2.1 t11.2.2.2.2.2.1 t11.2.2.2.2.2.2.1 t11.2.2.2.2.2.2.2.1 t11.2.2.2.2.2.2.2.2.1 t11.2.2.2.2.2.2.2.2.2; let t13 := inv_told t12.1 t12.2.1 t12.2.2.1 t12.2.2.2.1 t12.2.2.2.2.1 t12.2.2.2.2.2.1 t12.2.2.2.2.2.2.1 t12.2.2.2.2.2.2.2.1 t12.2.2.2.2.2.2.2.2.1 t12.2.2.2.2.2.2.2.2.2; let t14 := inv_upTo.ok t2.1 t2.2.1 t2.2.2.1 t2.2.2.2.1 t2.2.2.2.2 t1.1 t1.2.1 t1.2.2.1 t1.2.2.2.1 t1.2.2.2.2; let t15 := inv_upTo t2.1 t2.2.1 t2.2.2.1 t2.2.2.2.1 t2.2.2.2.2 t1.1 t1.2.1 t1.2.2.1 t1.2.2.2.1 t1.2.2.2.2; let t16 := inv_turned t15.1 t15.2.1 t15.2.2.1 t15.2.2.2.1 t15.2.2.2.2.1 t15.2.2.2.2.2.1 t15.2.2.2.2.2.2.1 t15.2.2.2.2.2.2.2.1 t15.2.2.2.2.2.2.2.2.1 t15.2.2.2.2.2.2.2.2.2; let t17 := inv_told t16.1 t16.2.1 t16.2.2.1 t16.2.2.2.1 t16.2.2.2.2.1 t16.2.2.2.2.2.1 t16.2.2.2.2.2.2.1 t16.2.2.2.2.2.2.2.1 t16.2.2.2.2.2.2.2.2.1 t16.2.2.2.2.2.2.2.2.2; let t18 := inv_sides1.ok t1.1 t1.2.1 t1.2.2.1 t1.2.2.2.1 t1.2.2.2.2 t2.1 t2.2.1 t2.2.2.1 t2.2.2.2.1 t2.2.2.2.2; let t19 := inv_sides1 t1.1 t1.2.1 t1.2.2.1 t1.2.2.2.1 t1.2.2.2.2 t2.1 t2.2.1 t2.2.2.1 t2.2.2.2.1 t2.2.2.2.2; let t20 := inv_told t19.1 t19.2.1 t19.2.2.1 t19.2.2.2.1 t19.2.2.2.2.1 t19.2.2.2.2.2.1 t19.2.2.2.2.2.2.1 t19.2.2.2.2.2.2.2.1 t19.2.2.2.2.2.2.2.2.1 t19.2.2.2.2.2.2.2.2.2; let t21 := inv_sides2.ok t1.1 t1.2.1 t1.2.2.1 t1.2.2.2.1 t1.2.2.2.2 t2.1 t2.2.1 t2.2.2.1 t2.2.2.2.1 t2.2.2.2.2; let t22 := inv_sides2 t1.1 t1.2.1 t1.2.2.1 t1.2.2.2.1 t1.2.2.2.2 t2.1 t2.2.1 t2.2.2.1 t2.2.2.2.1 t2.2.2.2.2; let t23 := inv_told t22.1 t22.2.1 t22.2.2.1 t22.2.2.2.1 t22.2.2.2.2.1 t22.2.2.2.2.2.1 t22.2.2.2.2.2.2.1 t22.2.2.2.2.2.2.2.1 t22.2.2.2.2.2.2.2.2.1 t22.2.2.2.2.2.2.2.2.2; inv_Compare.c0 n k a b0 b1 b2 b3 b4 c0 c1 c2 c3 c4 t1 t2 t3 t4 t5 t6 t7 t8 t9 t10 t11 t12 t13 t14 t15 t16 t17 t18 t19 t20 t21 t22 t23
def inv_Compare.ok (a : Int) (b0 : Bool) (b1 b2 b3 b4 : Int) (c0 : Bool) (c1 c2 c3 c4 : Int) : Bool := inv_Compare.c false (fun _ => true) a b0 b1 b2 b3 b4 c0 c1 c2 c3 c4
def inv_Compare (a : Int) (b0 : Bool) (b1 b2 b3 b4 : Int) (c0 : Bool) (c1 c2 c3 c4 : Int) : Bool × Int × Int × Int × Int × Bool × Int × Int × Int × Int × Int := inv_Compare.c (false, 0, 0, 0, 0, false, 0, 0, 0, 0, 0) id a b0 b1 b2 b3 b4 c0 c1 c2 c3 c4
def inv_Compare.F : FV := mkF (cP (cI .i64) (cP (cA (cP cB (cP (cI .i64) (cP (cI .i64) (cP (cI .u64) (cP (cI .u64) cU)))))) (cP (cA (cP cB (cP (cI .i64) (cP (cI .i64) (cP (cI .u64) (cP (cI .u64) cU)))))) cU))) (fun | (a, ((b0, (b1, (b2, (b3, (b4, ()))))), ((c0, (c1, (c2, (c3, (c4, ()))))), ()))) => inv_Compare.ok a b0 b1 b2 b3 b4 c0 c1 c2 c3 c4) (fun | (a, ((b0, (b1, (b2, (b3, (b4, ()))))), ((c0, (c1, (c2, (c3, (c4, ()))))), ()))) => .tuple #[.agg #[.bool (inv_Compare a b0 b1 b2 b3 b4 c0 c1 c2 c3 c4).1, .int .i64 (inv_Compare a b0 b1 b2 b3 b4 c0 c1 c2 c3 c4).2.1, .int .i64 (inv_Compare a b0 b1 b2 b3 b4 c0 c1 c2 c3 c4).2.2.1, .int .u64 (inv_Compare a b0 b1 b2 b3 b4 c0 c1 c2 c3 c4).2.2.2.1, .int .u64 (inv_Compare a b0 b1 b2 b3 b4 c0 c1 c2 c3 c4).2.2.2.2.1], .agg #[.bool (inv_Compare a b0 b1 b2 b3 b4 c0 c1 c2 c3 c4).2.2.2.2.2.1, .int .i64 (inv_Compare a b0 b1 b2 b3 b4 c0 c1 c2 c3 c4).2.2.2.2.2.2.1, .int .i64 (inv_Compare a b0 b1 b2 b3 b4 c0 c1 c2 c3 c4).2.2.2.2.2.2.2.1, .int .u64 (inv_Compare a b0 b1 b2 b3 b4 c0 c1 c2 c3 c4).2.2.2.2.2.2.2.2.1, .int .u64 (inv_Compare a b0 b1 b2 b3 b4 c0 c1 c2 c3 c4).2.2.2.2.2.2.2.2.2.1], .int .i64 (inv_Compare a b0 b1 b2 b3 b4 c0 c1 c2 c3 c4).2.2.2.2.2.2.2.2.2.2])
def L_inv_Compare : TL := (47, inv_Compare.F) :: L_inv_sides2
theorem inv_Compare.p0 {γ : Type} (k : Bool × Int × Int × Int × Int × Bool × Int × Int × Int × Int × Int → γ) (a b0 b1 b2 b3 b4 c0 c1 c2 c3 c4 t1 t2 t3 t4 t5 t6 t7 t8 t9 t10 t11 t12 t13 t14 t15 t16 t17 t18 t19 t20 t21 t22 t23) : inv_Compare.c0 false (fun _ => true) a b0 b1 b2 b3 b4 c0 c1 c2 c3 c4 t1 t2 t3 t4 t5 t6 t7 t8 t9 t10 t11 t12 t13 t14 t15 t16 t17 t18 t19 t20 t21 t22 t23 = true → inv_Compare.c0 none (fun q => some (k q)) a b0 b1 b2 b3 b4 c0 c1 c2 c3 c4 t1 t2 t3 t4 t5 t6 t7 t8 t9 t10 t11 t12 t13 t14 t15 t16 t17 t18 t19 t20 t21 t22 t23 = some (k (inv_Compare.c0 (false, 0, 0, 0, 0, false, 0, 0, 0, 0, 0) id a b0 b1 b2 b3 b4 c0 c1 c2 c3 c4 t1 t2 t3 t4 t5 t6 t7 t8 t9 t10 t11 t12 t13 t14 t15 t16 t17 t18 t19 t20 t21 t22 t23)) := by
  unfold inv_Compare.c0; (repeat' (first | (apply pn k) | (exact pn_none _ _) | (exact pn_leaf k _)))
theorem inv_Compare.p {γ : Type} (k : Bool × Int × Int × Int × Int × Bool × Int × Int × Int × Int × Int → γ) (a : Int) (b0 : Bool) (b1 b2 b3 b4 : Int) (c0 : Bool) (c1 c2 c3 c4 : Int) (h : inv_Compare.ok a b0 b1 b2 b3 b4 c0 c1 c2 c3 c4 = true) : inv_Compare.c none (fun q => some (k q)) a b0 b1 b2 b3 b4 c0 c1 c2 c3 c4 = some (k (inv_Compare a b0 b1 b2 b3 b4 c0 c1 c2 c3 c4)) := by
  revert h; unfold inv_Compare.ok inv_Compare inv_Compare.c; exact fun h => inv_Compare.p0 k a b0 b1 b2 b3 b4 c0 c1 c2 c3 c4 _ _ _ _ _ _ _ _ _ _ _ _ _ _ _ _ _ _ _ _ _ _ _ h
theorem inv_Compare.r (a : Int) (b0 : Bool) (b1 b2 b3 b4 : Int) (c0 : Bool) (c1 c2 c3 c4 : Int) : runF P G (tab L_inv_sides2) { merge := true, glue := true, arr := true } 60 Tryz.f47 [.int .i64 a, .agg #[.bool b0, .int .i64 b1, .int .i64 b2, .int .u64 b3, .int .u64 b4], .agg #[.bool c0, .int .i64 c1, .int .i64 c2, .int .u64 c3, .int .u64 c4]] = inv_Compare.c none (fun q => some (.tuple #[.agg #[.bool (q).1, .int .i64 (q).2.1, .int .i64 (q).2.2.1, .int .u64 (q).2.2.2.1, .int .u64 (q).2.2.2.2.1], .agg #[.bool (q).2.2.2.2.2.1, .int .i64 (q).2.2.2.2.2.2.1, .int .i64 (q).2.2.2.2.2.2.2.1, .int .u64 (q).2.2.2.2.2.2.2.2.1, .int .u64 (q).2.2.2.2.2.2.2.2.2.1], .int .i64 (q).2.2.2.2.2.2.2.2.2.2] : Value)) a b0 b1 b2 b3 b4 c0 c1 c2 c3 c4 := by kernel_rfl
theorem inv_Compare.t : TabOK P G (tab L_inv_Compare) :=
  TabOK_mkL C inv_sides2.t Tryz.func47 (by kernel_rfl) { merge := true, glue := true, arr := true } (fun c _ => LoopsOK_nil c) 60 (by
    rintro ⟨a, ⟨⟨b0, ⟨b1, ⟨b2, ⟨b3, ⟨b4, ⟨⟩⟩⟩⟩⟩⟩, ⟨⟨c0, ⟨c1, ⟨c2, ⟨c3, ⟨c4, ⟨⟩⟩⟩⟩⟩⟩, ⟨⟩⟩⟩⟩ h
    exact (inv_Compare.r a b0 b1 b2 b3 b4 c0 c1 c2 c3 c4).trans (inv_Compare.p (fun q => (.tuple #[.agg #[.bool (q).1, .int .i64 (q).2.1, .int .i64 (q).2.2.1, .int .u64 (q).2.2.2.1, .int .u64 (q).2.2.2.2.1], .agg #[.bool (q).2.2.2.2.2.1, .int .i64 (q).2.2.2.2.2.2.1, .int .i64 (q).2.2.2.2.2.2.2.1, .int .u64 (q).2.2.2.2.2.2.2.2.1, .int .u64 (q).2.2.2.2.2.2.2.2.2.1], .int .i64 (q).2.2.2.2.2.2.2.2.2.2] : Value)) a b0 b1 b2 b3 b4 c0 c1 c2 c3 c4 h))

def inv_Negate.c {γ : Type} (k : Int × Int → γ) (a : Int) : γ := bif a == 8
  then k (11, 0)
  else bif a == 9
   then k (10, 0)
   else bif a == 10
    then k (9, 0)
    else bif a == 11
     then k (8, 0)
     else bif a == 12
      then k (13, 0)
      else bif a == 13
       then k (12, 0)
       else k (0, 1)
def inv_Negate (a : Int) : Int × Int := inv_Negate.c id a
def inv_Negate.F : FV := mkF (cP (cI .i64) cU) (fun _ => true) (fun | (a, ()) => .tuple #[.int .i64 (inv_Negate a).1, .int .i64 (inv_Negate a).2])
def L_inv_Negate : TL := (49, inv_Negate.F) :: L_inv_Compare
theorem inv_Negate.p {γ : Type} (k : Int × Int → γ) (a : Int) : inv_Negate.c k a = k (inv_Negate a) := by
  unfold inv_Negate inv_Negate.c; (repeat' (first | (apply pc k) | (exact rfl)))
theorem inv_Negate.r (a : Int) : runF P G (tab L_inv_Compare) { merge := true, glue := true, arr := true } 60 Tryz.f49 [.int .i64 a] = inv_Negate.c (fun q => some (.tuple #[.int .i64 (q).1, .int .i64 (q).2] : Value)) a := by kernel_rfl
theorem inv_Negate.t : TabOK P G (tab L_inv_Negate) :=
  TabOK_mkL C inv_Compare.t Tryz.func49 (by kernel_rfl) { merge := true, glue := true, arr := true } (fun c _ => LoopsOK_nil c) 60 (by
    rintro ⟨a, ⟨⟩⟩ h
    exact (inv_Negate.r a).trans (inv_Negate.p (fun q => some (.tuple #[.int .i64 (q).1, .int .i64 (q).2] : Value)) a))

end
end Go.Proofs.YtonpbbhlmapbdaaGreatDoor.V
