/- What the statements ask of word.Parse and of the library's FormatInt, as entries of the table. Conditions: none. -/
import Derived.Test.YtfcgmfefdgcmjaaDoorS2
set_option linter.unusedVariables false
set_option linter.unusedSimpArgs false
namespace Go.Proofs.YtfcgmfefdgcmjaaDoor.V
open Go Go.RowKit Go.Wk
noncomputable section

def txtA : ByteArray := ⟨#[45, 49, 50]⟩
def isT (s : ByteArray) : Bool := match s.data.toList with
  | [a, b, c] => Nat.beq a.toNat 45 && (Nat.beq b.toNat 49 && Nat.beq c.toNat 50)
  | _ => false
theorem isT_eq {s : ByteArray} (h : isT s = true) : s = txtA := by
  unfold isT at h
  split at h <;> try (simp at h; done)
  rename_i a b c he
  simp only [Bool.and_eq_true] at h
  have h1 := Nat.eq_of_beq_eq_true h.1
  have h2 := Nat.eq_of_beq_eq_true h.2.1
  have h3 := Nat.eq_of_beq_eq_true h.2.2
  have e1 : a = 45 := UInt8.toNat_inj.1 (by simpa using h1)
  have e2 : b = 49 := UInt8.toNat_inj.1 (by simpa using h2)
  have e3 : c = 50 := UInt8.toNat_inj.1 (by simpa using h3)
  subst e1; subst e2; subst e3
  cases s with
  | mk d =>
    simp only [txtA] at *
    congr 1
    apply Array.ext'
    simpa using he
theorem parse12 (w : World) : Calls P 7 #[.string txtA] w fun e w' => e = .returned (.tuple #[.int .i64 (-12), .int .i64 0, .int .i64 0]) ∧ Below w.heap.size w w' :=
  parse_three txtA (-12) rfl (by decide) (by decide) (by decide) (by decide) (by decide) (by decide) w
def word_Parse.F : FV := mkF (cP cS cU) (fun | (s, ()) => isT s) (fun _ => .tuple #[.int .i64 (-12), .int .i64 0, .int .i64 0])
def L_word_Parse : TL := (7, word_Parse.F) :: []
theorem word_Parse.t : TabOK P G (tab L_word_Parse) :=
  TabOK_cons TabOK_nil Tryd.func7 C (by kernel_rfl) (by
    intro vs v w hG h
    obtain ⟨⟨s, _⟩, rfl, h1, rfl⟩ := mkF_inv h
    have := isT_eq h1
    subst this
    exact parse12 w)
theorem itoa12 : Lib.itoa (-12) = [45, 49, 50] := by
  simp [Lib.itoa, Lib.decDigits]
theorem pow10 {w : World} (hG : GOK G w) : Lib.TabIs P w "internal/strconv.uint64pow10" .u64 Lib.pow10Tab := by
  obtain ⟨t, fr, hh⟩ := hG 2 _ (by simp only [G, List.mem_cons, true_or]; exact .inl rfl)
  have hg : P.globalNamed "internal/strconv.uint64pow10" = some 2 := by kernel_rfl
  unfold Lib.TabIs World.var?
  rw [hg]
  simp only [Option.bind_some, hh]
  rfl
theorem fmt12 {w : World} (hG : GOK G w) : Calls P 35 #[.int .i64 (-12), .int .i64 10] w fun e w' => e = .returned (.string txtA) ∧ Below w.heap.size w w' := by
  refine (Tryd.strconv_FormatInt_10 (-12) (by decide) (by decide) w (pow10 hG)).mono ?_
  rintro e w' ⟨rfl, k, os, rfl⟩
  rw [itoa12]
  exact ⟨rfl, rfl, rfl, rfl, by show w.heap.size ≤ (w.heap ++ os).size; simp, fun j hj => by show (w.heap ++ os)[j]? = w.heap[j]?; exact Array.getElem?_append_left hj⟩
def lib_FormatInt.F : FV := mkF (cP (cI .i64) (cP (cI .i64) cU)) (fun | (n, (b, ())) => decide (n = -12) && decide (b = 10)) (fun _ => .string txtA)
def L_lib_FormatInt : TL := (35, lib_FormatInt.F) :: L_word_Parse
theorem lib_FormatInt.t : TabOK P G (tab L_lib_FormatInt) :=
  TabOK_cons word_Parse.t Tryd.func35 C (by kernel_rfl) (by
    intro vs v w hG h
    obtain ⟨⟨n, b, _⟩, rfl, h1, rfl⟩ := mkF_inv h
    simp only [Bool.and_eq_true, decide_eq_true_eq] at h1
    obtain ⟨rfl, rfl⟩ := h1
    exact fmt12 hG)
end
end Go.Proofs.YtfcgmfefdgcmjaaDoor.V
