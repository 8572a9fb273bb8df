/- WordOps: every answer of layer 1 on numbers is the document's. Conditions: none. -/
import Derived.Test.YtfcgmfefdgcmjaaDoorQ3
set_option linter.unusedVariables false
set_option linter.unusedSimpArgs false
namespace Go.Proofs.YtfcgmfefdgcmjaaDoor.V
open Go Go.Wk Go.RowKit

theorem bnes {α : Type} [BEq α] [LawfulBEq α] (a : α) : (a != a) = false := by simp
theorem ops_ok {a b c d : Int} (ha : I64 a) (hb : I64 b) (hc : U64 c) (hd : U64 d) : law_WordOps.c none (fun q => some (.bool (q) : Value)) a b c d = some (.bool true) := by
  unfold law_WordOps.c law_WordOps.c0
  simp only [Div_ok ha hb, Rem_ok ha hb, wdiv_s, Div_s ha hb, wrem_s, Rem_s ha hb, Wide_ok ha hb, Wide_s ha hb, word_Wide_s ha hb, Add_g, wadd_s, Add_s, Sub_ok, wsub_s, Sub_s, Mul_g, word_Mul_s, Mul_s, Neg_ok, wneg_s, Neg_s,
    gcd_g hc.1 hd.1, gcd_s hc.1 hd.1, Gcd_g hc hd, Gcd_s hc hd, Even_g hc, Even_s hc, Mod_ok ha hc, mod_s ha hc, Mod_s ha hc, taken_s, taken_ok, bne_self_eq_false, beq_self_eq_true, Bool.not_true, Bool.not_false, cond_true, cond_false, Bool.and_true, Bool.true_or, Bool.or_true]
theorem wordOps.walk (a b c d : Int) (W : World) (w0 : (Lit.int .i64 a).wf = true) (w1 : (Lit.int .i64 b).wf = true) (w2 : (Lit.int .u64 c).wf = true) (w3 : (Lit.int .u64 d).wf = true) (hG : GOK G W) :
    Calls P 6 #[.int .i64 a, .int .i64 b, .int .u64 c, .int .u64 d] W fun e w' => e = .returned (.bool true) ∧ Below W.heap.size W w' :=
  runF_calls' C.mixed C.names law_sum.t (fun c _ => LoopsOK_nil c) Tryd.func6 (vs := [.int .i64 a, .int .i64 b, .int .u64 c, .int .u64 d]) hG (gok_lt C hG) ((law_WordOps.r a b c d).trans (ops_ok (i64_wf w0) (i64_wf w1) (u64_wf w2) (u64_wf w3)))
end Go.Proofs.YtfcgmfefdgcmjaaDoor.V
