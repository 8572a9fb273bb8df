/- The library's FormatInt at every number, as an entry of a table. Conditions: none. -/
import Derived.Test.YtfcgmfefdgcmjaaDoorS3
set_option linter.unusedVariables false
set_option linter.unusedSimpArgs false
namespace Go.Proofs.YtfcgmfefdgcmjaaDoor.V
open Go Go.RowKit Go.Wk
noncomputable section

/-- a number's text -/
def numText (n : Int) : ByteArray := ⟨(Lib.itoa n).toArray⟩
def rngI (n : Int) : Bool := decide (-9223372036854775808 ≤ n) && decide (n ≤ 9223372036854775807)
theorem fmtAny {n : Int} (h0 : -9223372036854775808 ≤ n) (h1 : n ≤ 9223372036854775807) {w : World} (hG : GOK G w) : Calls P 35 #[.int .i64 n, .int .i64 10] w fun e w' => e = .returned (.string (numText n)) ∧ Below w.heap.size w w' := by
  refine (Tryd.strconv_FormatInt_10 n h0 h1 w (pow10 hG)).mono ?_
  rintro e w' ⟨rfl, k, os, rfl⟩
  exact ⟨rfl, rfl, rfl, rfl, by show w.heap.size ≤ (w.heap ++ os).size; simp, fun j hj => by show (w.heap ++ os)[j]? = w.heap[j]?; exact Array.getElem?_append_left hj⟩
def lib_FmtAny.F : FV := mkF (cP (cI .i64) (cP (cI .i64) cU)) (fun | (n, (b, ())) => rngI n && decide (b = 10)) (fun | (n, (b, ())) => .string (numText n))
def L_lib_FmtAny : TL := (35, lib_FmtAny.F) :: []
theorem lib_FmtAny.t : TabOK P G (tab L_lib_FmtAny) :=
  TabOK_cons TabOK_nil Tryd.func35 C (by kernel_rfl) (by
    intro vs v w hG h
    obtain ⟨⟨n, b, _⟩, rfl, h1, rfl⟩ := mkF_inv h
    simp only [Bool.and_eq_true, decide_eq_true_eq, rngI] at h1
    obtain ⟨⟨h1, h2⟩, rfl⟩ := h1
    exact fmtAny h1 h2 hG)
end
end Go.Proofs.YtfcgmfefdgcmjaaDoor.V
