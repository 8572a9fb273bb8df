/- word.Parse: at the door, where the body has panicked and where it has returned; the library's ParseInt at digits. Conditions: none. -/
import Derived.Test.YtfcgmfefdgcmjaaDoorS2
import Derived.Test.YtfcgmfefdgcmjaaDoorS5
import Derived.Test.YtfcgmfefdgcmjaaDoorQ4
set_option linter.unusedVariables false
set_option linter.unusedSimpArgs false
namespace Go.Proofs.YtfcgmfefdgcmjaaDoor.V
open Go Go.RowKit Go.Wk

def caps (n : Nat) : Array Value := #[.pointer (some ⟨n, 0, none⟩), .pointer (some ⟨n + 1, 0, none⟩), .pointer (some ⟨n + 1 + 1, 0, none⟩)]
theorem door_caught {w Wd : World} (t : Array Value) (er at_ : Int) (hB : Below w.heap.size w Wd) (hs : w.heap.size + 1 + 1 < Wd.heap.size) (t2 : t.getD 2 undef = .pointer (some ⟨w.heap.size, 0, none⟩)) (t3 : t.getD 3 undef = .pointer (some ⟨w.heap.size + 1, 0, none⟩)) (t4 : t.getD 4 undef = .pointer (some ⟨w.heap.size + 1 + 1, 0, none⟩))
    (h1 : Wd.heap[w.heap.size]? = some (.cells #[.int .i64 0] 2 (0, 0))) (h2 : Wd.heap[w.heap.size + 1]? = some (.cells #[.int .i64 0] 22 (0, 0))) (h3 : Wd.heap[w.heap.size + 1 + 1]? = some (.cells #[.int .i64 0] 3 (0, 0))) :
    bodyPostD Tryd.prog Tryd.f7 (fun e w' => e = .returned (.tuple #[.int .i64 0, .int .i64 er, .int .i64 at_]) ∧ Below w.heap.size w w') (.panic [{ v := .iface 43 (.agg #[.int .i64 er, .int .i64 at_]), recovered := false }])
      { tmps := t, defers := [{ target := .fn (.func 33) (caps w.heap.size), args := #[] }] } Wd := by
  refine leaves_cons (f := 33) (args := caps w.heap.size) (by simp) (by simp [go_sem, caps]) ?_
  refine (parse1_caught (n0 := w.heap.size) (b1 := w.heap.size) (b2 := w.heap.size + 1) (b3 := w.heap.size + 1 + 1) (by omega) (by omega) (by omega) (by omega) (by omega) (by omega) er at_ [] Wd (by omega) h1 h2 h3).mono ?_
  rintro e u' w2 ⟨rfl, rfl, hb, f1, f2, f3⟩
  have hfin := Lib.hid (hB.trans hb)
  simp only [Array.getD_eq_getD_getElem?] at t2 t3 t4
  simp [Leaves, settle, results, Tryd.results7, go_sem, f1, f2, f3, t2, t3, t4]
  exact hfin.out
theorem door_idle {w Wd : World} (t : Array Value) (v : Int) (hB : Below w.heap.size w Wd) (hs : w.heap.size + 1 + 1 < Wd.heap.size) (t2 : t.getD 2 undef = .pointer (some ⟨w.heap.size, 0, none⟩)) (t3 : t.getD 3 undef = .pointer (some ⟨w.heap.size + 1, 0, none⟩)) (t4 : t.getD 4 undef = .pointer (some ⟨w.heap.size + 1 + 1, 0, none⟩))
    (c0 : Wd.cell? ⟨w.heap.size, 0, none⟩ = some (.int .i64 v)) (c1 : Wd.cell? ⟨w.heap.size + 1, 0, none⟩ = some (.int .i64 0)) (c2 : Wd.cell? ⟨w.heap.size + 1 + 1, 0, none⟩ = some (.int .i64 0)) :
    bodyPostD Tryd.prog Tryd.f7 (fun e w' => e = .returned (.tuple #[.int .i64 v, .int .i64 0, .int .i64 0]) ∧ Below w.heap.size w w') .ret
      { tmps := t, defers := [{ target := .fn (.func 33) (caps w.heap.size), args := #[] }] } Wd := by
  refine leaves_cons (f := 33) (args := caps w.heap.size) (by simp) (by simp [go_sem, caps]) ?_
  refine (parse1_idle _ _ _ _).mono ?_
  rintro e u' w2 ⟨rfl, rfl, hb⟩
  have f1 : w2.cell? ⟨w.heap.size, 0, none⟩ = some (.int .i64 v) := (hb.cell (by simp; omega)).trans c0
  have f2 : w2.cell? ⟨w.heap.size + 1, 0, none⟩ = some (.int .i64 0) := (hb.cell (by simp; omega)).trans c1
  have f3 : w2.cell? ⟨w.heap.size + 1 + 1, 0, none⟩ = some (.int .i64 0) := (hb.cell (by simp; omega)).trans c2
  have hfin := Lib.hid (hB.trans (hb.mono (by omega)))
  simp only [Array.getD_eq_getD_getElem?] at t2 t3 t4
  simp [Leaves, settle, results, Tryd.results7, go_sem, f1, f2, f3, t2, t3, t4]
  exact hfin.out

theorem alloc3_rows (w : World) (A B C : Obj) : (((w.alloc A).alloc B).alloc C).heap[w.heap.size]? = some A ∧ (((w.alloc A).alloc B).alloc C).heap[w.heap.size + 1]? = some B ∧ (((w.alloc A).alloc B).alloc C).heap[w.heap.size + 1 + 1]? = some C ∧ w.heap.size + 1 + 1 < (((w.alloc A).alloc B).alloc C).heap.size := by
  have e : (((w.alloc A).alloc B).alloc C).heap = ((w.heap.push A).push B).push C := rfl
  rw [e]
  refine ⟨?_, ?_, ?_, by simp⟩
  · rw [Array.getElem?_push, Array.getElem?_push, Array.getElem?_push]; simp; omega
  · rw [Array.getElem?_push, Array.getElem?_push]; simp
  · rw [Array.getElem?_push]; simp
theorem notD {c : UInt8} (h : (c.toNat : Int) < 48 ∨ 57 < (c.toNat : Int)) : isD c = false := by
  unfold isD
  rcases h with h | h
  · rw [decide_eq_false (by omega)]; rfl
  · rw [decide_eq_false (show ¬ c.toNat ≤ 57 by omega)]; simp
theorem yesD {c : UInt8} (h1 : 48 ≤ (c.toNat : Int)) (h2 : (c.toNat : Int) ≤ 57) : isD c = true := by
  unfold isD
  rw [decide_eq_true (by omega), decide_eq_true (show c.toNat ≤ 57 by omega)]; rfl
theorem byte_at (s : ByteArray) (j : Nat) (h : j < s.size) : s.data.toList[j]'(by simpa using h) = s[j] := by simp; rfl
theorem len_s (s : ByteArray) : s.data.toList.length = s.size := by simp
theorem all_drop {s : ByteArray} {k : Nat} (h : ∀ j, (hj : j < s.size) → k ≤ j → isD s[j] = true) : ∀ c ∈ s.data.toList.drop k, isD c = true := by
  intro c hc
  obtain ⟨i, hi, rfl⟩ := List.mem_iff_getElem.1 hc
  rw [List.getElem_drop]
  have h1 : k + i < s.size := by rw [List.length_drop, len_s] at hi; omega
  rw [byte_at s (k + i) h1]
  exact h _ h1 (by omega)
theorem dg_drop {s : ByteArray} {k0 k : Nat} (h0 : k0 ≤ k) (hk : k ≤ s.size) (h : ∀ j, (hj : j < s.size) → k0 ≤ j → j < k → isD s[j] = true) (hn : (hk : k < s.size) → isD s[k] = false) : dg (s.data.toList.drop k0) = k - k0 := by
  refine dg_at _ _ (by rw [List.length_drop, len_s]; omega) ?_ ?_
  · intro j hj hjk
    rw [List.getElem_drop]
    have h1 : k0 + j < s.size := by rw [List.length_drop, len_s] at hj; omega
    rw [byte_at s (k0 + j) h1]
    exact h _ h1 (by omega) (by omega)
  · intro hj
    rw [List.getElem_drop]
    have h1 : k < s.size := by rw [List.length_drop, len_s] at hj; omega
    have e : k0 + (k - k0) = k := by omega
    have := hn h1
    rw [← byte_at s k h1] at this
    simp only [e]
    exact this
/-- a text that has a byte that is no digit, or no digits -/
theorem parse_no {s : ByteArray} {k : Nat} (h0 : k0 s.data.toList ≤ k) (hk : k ≤ s.size) (h : ∀ j, (hj : j < s.size) → k0 s.data.toList ≤ j → j < k → isD s[j] = true) (hn : (hk : k < s.size) → isD s[k] = false) (hq : k < s.size ∨ k = k0 s.data.toList) : parseS s.data.toList = (0, 10, (k : Int)) := by
  have e := dg_drop h0 hk h hn
  unfold parseS
  simp only [e]
  have e2 : k0 s.data.toList + (k - k0 s.data.toList) = k := by omega
  rw [e2, len_s, if_pos hq]
theorem parse_all {s : ByteArray} (h0 : k0 s.data.toList < s.size) (h : ∀ j, (hj : j < s.size) → k0 s.data.toList ≤ j → isD s[j] = true) : parseS s.data.toList = fin (isNeg s.data.toList) (tot 0 (s.data.toList.drop (k0 s.data.toList))) := by
  have e := dg_drop (k := s.size) (by omega) (Nat.le_refl _) (fun j hj h1 _ => h j hj h1) (fun hk => absurd hk (Nat.lt_irrefl _))
  unfold parseS
  simp only [e]
  have e2 : k0 s.data.toList + (s.size - k0 s.data.toList) = s.size := by omega
  rw [e2, len_s, if_neg (by omega)]
theorem parseInt_two {s : ByteArray} (hlim : s.size ≤ 140737488355328) (h0 : k0 s.data.toList < s.size) (h : ∀ j, (hj : j < s.size) → k0 s.data.toList ≤ j → isD s[j] = true) {ev : Value} {w : World} (hv : w.cell? ⟨1, 0, none⟩ = some ev) (hev : ev = .nilIface ∨ ∃ te pe, ev = .iface te pe) :
    Calls Tryd.prog 34 #[.string s, .int .i64 10, .int .i64 64] w fun e w' => Below w.heap.size w w' ∧ ((∃ v, e = .returned (.tuple #[.int .i64 v, .nilIface]) ∧ parseS s.data.toList = (v, 0, 0)) ∨
      (∃ a N, e = .returned (.tuple #[.int .i64 a, .iface 60 (.pointer (some ⟨N, 0, none⟩))]) ∧ parseS s.data.toList = (0, 11, 0))) := by
  have hne : s.data.toList.drop (k0 s.data.toList) ≠ [] := by
    intro e
    have := congrArg List.length e
    rw [List.length_drop, len_s] at this
    simp at this; omega
  have hp := parseInt_digits s.data.toList hne (all_drop h)
  have ha := parse_all h0 h
  by_cases hc : 9223372036854775808 < tot 0 (s.data.toList.drop (k0 s.data.toList)) ∨ (tot 0 (s.data.toList.drop (k0 s.data.toList)) = 9223372036854775808 ∧ isNeg s.data.toList = false)
  · rw [if_pos hc] at hp
    refine (Tryd.strconv_ParseInt_10_at64_range s (by omega) hp ev w hv hev).mono ?_
    rintro e w' ⟨N, rfl, _, _, hb⟩
    refine ⟨hb, .inr ⟨_, N, rfl, ?_⟩⟩
    rw [ha]
    unfold fin
    rcases hc with hc | hc
    · rw [if_pos hc]
    · rw [if_neg (by omega), if_pos hc]
  · rw [if_neg hc] at hp
    refine (parseInt_ok s (by omega) _ hp w).mono ?_
    rintro e w' ⟨rfl, hb⟩
    refine ⟨hb, .inl ⟨_, rfl, ?_⟩⟩
    rw [ha]
    unfold fin
    rw [if_neg (fun q => hc (.inl q)), if_neg (fun q => hc (.inr q))]
end Go.Proofs.YtfcgmfefdgcmjaaDoor.V
