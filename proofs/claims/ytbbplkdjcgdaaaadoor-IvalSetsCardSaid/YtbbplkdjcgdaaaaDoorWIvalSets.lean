/- IvalSets: the law function, evaluated: it answers true. Conditions: none. -/
import Derived.Test.YtbbplkdjcgdaaaaDoorE2
set_option linter.unusedVariables false
set_option linter.unusedSimpArgs false
namespace Go.Proofs.YtbbplkdjcgdaaaaDoor.V
open Go Go.Wk Go.RowKit

theorem has_eq (a b v : Int) : ival_Has a b v = ref_Has a b v := rfl
theorem leq_eq (a b c d : Int) : ival_Leq a b c d = ref_Leq a b c d := rfl
theorem join_eq (a b c d : Int) : ival_Join a b c d = ref_Join a b c d := by
  simp only [ival_Join, ival_Join.c, ref_Join, ref_Join.c, ref_normal, ref_normal.c, ref_Empty, ref_Empty.c, ref_None, ref_None.c, ival_none, ival_none.c, id]
  by_cases h1 : a > b <;> by_cases h2 : c > d <;> simp [h1, h2]
theorem meet_eq (a b c d : Int) : ival_Meet a b c d = ref_Meet a b c d := by
  simp only [ival_Meet, ival_Meet.c, ref_Meet, ref_Meet.c, ref_normal, ref_normal.c, ref_Empty, ref_Empty.c, ref_None, ref_None.c, ival_none, ival_none.c, id, Bool.cond_decide, gt_iff_lt]
  by_cases h1 : b < a
  · have h3 : (if b < d then b else d) < (if a < c then c else a) := by split <;> split <;> omega
    have h4 : (if d < b then d else b) < (if a < c then c else a) := by split <;> split <;> omega
    simp [h1, h4]
  · by_cases h2 : d < c
    · have h4 : (if d < b then d else b) < (if a < c then c else a) := by split <;> split <;> omega
      simp [h1, h2, h4]
    · simp [h1, h2]

theorem join_comm (a b c d : Int) : ival_Join a b c d = ival_Join c d a b := by
  simp only [ival_Join, ival_Join.c, ival_none, ival_none.c, id, Bool.cond_decide, gt_iff_lt]
  by_cases h1 : b < a <;> by_cases h2 : d < c <;> simp [h1, h2]
  constructor <;> split <;> split <;> omega
theorem meet_comm (a b c d : Int) : ival_Meet a b c d = ival_Meet c d a b := by
  have e1 : (if a < c then c else a) = (if c < a then a else c) := by split <;> split <;> omega
  have e2 : (if d < b then d else b) = (if b < d then b else d) := by split <;> split <;> omega
  simp only [ival_Meet, ival_Meet.c, ival_none, ival_none.c, id, Bool.cond_decide, gt_iff_lt, e1, e2]
  by_cases h1 : b < a <;> by_cases h2 : d < c <;> simp [h1, h2]

theorem ivalSets.r (a b c d v : Int) : runF P G (tab L_law_works) [] 100 Tryd.f4 [.agg #[.int .i64 a, .int .i64 b], .agg #[.int .i64 c, .int .i64 d], .int .i64 v] =
    bif !ival_Has a b v == ref_Has a b v then some (.bool false) else bif !ival_Leq a b c d == ref_Leq a b c d then some (.bool false) else bif !ival_Leq c d a b == ref_Leq c d a b then some (.bool false)
    else bif (ival_Join a b c d).fst == (ref_Join a b c d).fst && ((ival_Join a b c d).snd == (ref_Join a b c d).snd && true)
     then bif (ival_Meet a b c d).fst == (ref_Meet a b c d).fst && ((ival_Meet a b c d).snd == (ref_Meet a b c d).snd && true)
      then bif (ival_Join a b c d).fst == (ival_Join c d a b).fst && ((ival_Join a b c d).snd == (ival_Join c d a b).snd && true)
       then some (.bool ((ival_Meet a b c d).fst == (ival_Meet c d a b).fst && ((ival_Meet a b c d).snd == (ival_Meet c d a b).snd && true)))
       else some (.bool false)
      else some (.bool false)
     else some (.bool false) := by kernel_rfl
theorem ivalSets.walk (a b c d v : Int) (W : World) (_ : (Lit.int .i64 a).wf = true) (_ : (Lit.int .i64 b).wf = true) (_ : (Lit.int .i64 c).wf = true) (_ : (Lit.int .i64 d).wf = true) (_ : (Lit.int .i64 v).wf = true) (hG : GOK G W) :
    Calls Tryd.prog 4 #[.agg #[.int .i64 a, .int .i64 b], .agg #[.int .i64 c, .int .i64 d], .int .i64 v] W fun e w' => e = .returned (.bool true) ∧ Below W.heap.size W w' := by
  refine runF_calls C.mixed C.names law_works.t Tryd.func4 hG (gok_lt C hG) (vs := [.agg #[.int .i64 a, .int .i64 b], .agg #[.int .i64 c, .int .i64 d], .int .i64 v]) (H := []) (d := 100) ?_
  rw [ivalSets.r]
  have hj := join_comm a b c d
  have hm := meet_comm a b c d
  simp [has_eq, leq_eq, ← join_eq, ← meet_eq, ← hj, ← hm]
end Go.Proofs.YtbbplkdjcgdaaaaDoor.V
