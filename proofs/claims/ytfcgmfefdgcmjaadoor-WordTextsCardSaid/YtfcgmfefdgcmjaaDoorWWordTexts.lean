/- WordTexts: every text is read as chapter 1 says, every number is written so, and comes back. Conditions: none. -/
import Derived.Test.YtfcgmfefdgcmjaaDoorS7
import Derived.Test.YtfcgmfefdgcmjaaDoorQ6
import Derived.Test.YtfcgmfefdgcmjaaDoorQ3
set_option linter.unusedVariables false
set_option linter.unusedSimpArgs false
namespace Go.Proofs.YtfcgmfefdgcmjaaDoor.V
open Go Go.RowKit Go.Wk

theorem gok_below {w w' : World} (h : GOK G w) (hb : Below w.heap.size w w') : GOK G w' := fun g cs hg => (h g cs hg).below hb (h g cs hg).lt
theorem numText_size (a : Int) (h : I64 a) : (numText a).size ≤ 140737488355328 := by
  have e : (numText a).size = (numText a).data.toList.length := (len_s' _).symm
  have e2 : (numText a).data.toList = sgn a (Lib.decDigits a.natAbs) := by unfold numText; rw [itoa_eq]
  rw [e, e2]
  have hl : ∀ (k u : Nat), u < 10 ^ k → (Lib.decDigits u).length ≤ k + 1 := by
    intro k
    induction k with
    | zero => intro u hu; rw [digits_rec u, if_pos (by simp at hu; omega)]; simp
    | succ k ih =>
      intro u hu
      rw [digits_rec u]
      by_cases h : u < 10
      · rw [if_pos h]; simp
      · rw [if_neg h, List.length_append]
        have := ih (u / 10) (by rw [Nat.pow_succ] at hu; omega)
        simp; omega
  have := hl 20 a.natAbs (by have : (10 : Nat) ^ 20 = 100000000000000000000 := by decide
                             unfold I64 at h; omega)
  unfold sgn
  split <;> simp <;> omega
set_option maxHeartbeats 4000000 in
set_option maxRecDepth 100000 in
theorem law_ok (w : World) (s : ByteArray) (v : Int) (hs : s.size ≤ 140737488355328) (hv : I64 v) (hG : GOK G w) {ev : Value} (he : w.cell? ⟨1, 0, none⟩ = some ev) (hev : ev = .nilIface ∨ ∃ te pe, ev = .iface te pe) :
    Calls Tryd.prog 3 #[.string s, .int .i64 v] w fun e w' => e = .returned (.bool true) ∧ Below w.heap.size w w' := by
  have hb1 := World.block_lt_of_cell? _ _ he
  have c7 : ∀ W, Below w.heap.size w W → Calls Tryd.prog 7 #[.string s] W fun e w' => e = .returned (.tuple #[.int .i64 (parseS s.data.toList).1, .int .i64 (parseS s.data.toList).2.1, .int .i64 (parseS s.data.toList).2.2]) ∧ Below W.heap.size W w' :=
    fun W hb => parse_any hs ((hb.cell (p := ⟨1, 0, none⟩) hb1).trans he) hev
  have c7n : ∀ W, Below w.heap.size w W → Calls Tryd.prog 7 #[.string (numText v)] W fun e w' => e = .returned (.tuple #[.int .i64 v, .int .i64 0, .int .i64 0]) ∧ Below W.heap.size W w' := by
    intro W hb
    have := parse_any (s := numText v) (numText_size v hv) ((hb.cell (p := ⟨1, 0, none⟩) hb1).trans he) hev
    rw [back hv] at this
    exact this
  have c8 : ∀ W, Below w.heap.size w W → Calls Tryd.prog 8 #[.string s] W fun e w' => e = .returned (.tuple #[.int .i64 (parseS s.data.toList).1, .int .i64 (parseS s.data.toList).2.1, .int .i64 (parseS s.data.toList).2.2]) ∧ Below W.heap.size W w' := by
    intro W hb
    have := TabOK_calls C r1_Parse.t (F := r1_Parse.F) (by rfl) Tryd.func8 (by kernel_rfl) (vs := [.string s]) (v := r1_Parse.val (r1_Parse s)) (gok_below hG hb) (by
      simp only [r1_Parse.F, mkF, cP, cS, cU, rparse_g hs])
    rw [rparse_s hs] at this
    exact this
  have c9 : ∀ W, Below w.heap.size w W → Calls Tryd.prog 9 #[.int .i64 v] W fun e w' => e = .returned (.string (numText v)) ∧ Below W.heap.size W w' := by
    intro W hb
    have := TabOK_calls C word_PrintT.t (F := word_PrintT.F) (by rfl) Tryd.func9 (by kernel_rfl) (vs := [.int .i64 v]) (v := .string (word_PrintT v)) (gok_below hG hb) (by
      simp only [word_PrintT.F, mkF, cP, cI, cU, wprint_ok hv, decide_true, cond_true])
    rw [wprint_s hv] at this
    exact this
  have c10 : ∀ W, Below w.heap.size w W → Calls Tryd.prog 10 #[.int .i64 v] W fun e w' => e = .returned (.string (numText v)) ∧ Below W.heap.size W w' := by
    intro W hb
    have := TabOK_calls C r1_Print.t (F := r1_Print.F) (by rfl) Tryd.func10 (by kernel_rfl) (vs := [.int .i64 v]) (v := r1_Print.val (r1_Print v)) (gok_below hG hb) (by
      simp only [r1_Print.F, mkF, cP, cI, cU, rprint_g hv, decide_true, cond_true])
    rw [rprint_s hv] at this
    exact this
  have c11 : ∀ W, Below w.heap.size w W → Calls Tryd.prog 11 #[] W fun e w' => e = .returned (.bool true) ∧ Below W.heap.size W w' := by
    intro W hb
    have := TabOK_calls C law_taken.t (F := law_taken.F) (by rfl) Tryd.func11 (by kernel_rfl) (vs := []) (v := .bool law_taken) (gok_below hG hb) (by
      simp only [law_taken.F, mkF, cU, taken_ok])
    rw [taken_s] at this
    exact this
  have C7 := Lib.hid c7
  have C7n := Lib.hid c7n
  have C8 := Lib.hid c8
  have C9 := Lib.hid c9
  have C10 := Lib.hid c10
  have C11 := Lib.hid c11
  have B0 := Lib.hid (Below.refl w.heap.size w)
  clear c7 c7n c8 c9 c10 c11 hev he hG hb1
  generalize parseS s.data.toList = q at *
  obtain ⟨q1, q2, q3⟩ := q
  go_enter Tryd.func3, Tryd.ntmps3
  go_wp2_with (go_at_call 7; refine (C7.out _ B0.out).mono ?_; rintro e W1 ⟨rfl, hb⟩; refine Hid.out ?_)
  have B1 := Lib.hid (B0.out.trans (hb.mono (Nat.le_refl _)))
  clear hb
  refine Lib.hid ?_
  go_wp2_with (go_at_call 8; refine (C8.out _ B1.out).mono ?_; rintro e W2 ⟨rfl, hb⟩; refine Hid.out ?_)
  have B2 := Lib.hid (B1.out.trans (hb.mono B1.out.size))
  clear hb
  refine Lib.hid ?_
  go_wp2_with (go_at_call 9; refine (C9.out _ B2.out).mono ?_; rintro e W3 ⟨rfl, hb⟩; refine Hid.out ?_)
  have B3 := Lib.hid (B2.out.trans (hb.mono B2.out.size))
  clear hb
  refine Lib.hid ?_
  go_wp2_with (go_at_call 10; refine (C10.out _ B3.out).mono ?_; rintro e W4 ⟨rfl, hb⟩; refine Hid.out ?_)
  have B4 := Lib.hid (B3.out.trans (hb.mono B3.out.size))
  clear hb
  refine Lib.hid ?_
  go_wp2_with (go_at_call 9; refine (C9.out _ B4.out).mono ?_; rintro e W5 ⟨rfl, hb⟩; refine Hid.out ?_)
  have B5 := Lib.hid (B4.out.trans (hb.mono B4.out.size))
  clear hb
  refine Lib.hid ?_
  go_wp2_with (go_at_call 7; refine (C7n.out _ B5.out).mono ?_; rintro e W6 ⟨rfl, hb⟩; refine Hid.out ?_)
  have B6 := Lib.hid (B5.out.trans (hb.mono B5.out.size))
  clear hb
  refine Lib.hid ?_
  go_wp2_with (go_at_call 11; refine (C11.out _ B6.out).mono ?_; rintro e W7 ⟨rfl, hb⟩; refine Hid.out ?_)
  have B7 := Lib.hid (B6.out.trans (hb.mono B6.out.size))
  clear hb
  refine Lib.hid ?_
  go_wp2
  go_ret
  exact ⟨rfl, B7.out⟩
end Go.Proofs.YtfcgmfefdgcmjaaDoor.V
