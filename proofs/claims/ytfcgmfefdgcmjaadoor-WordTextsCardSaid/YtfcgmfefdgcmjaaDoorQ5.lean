/- What the document reads of a text, and how it writes a number. Conditions: none. -/
import Derived.Test.YtfcgmfefdgcmjaaDoorT1
import Derived.Test.YtfcgmfefdgcmjaaDoorQ2
import Derived.Test.YtfcgmfefdgcmjaaDoorQ4
import Derived.Lib.Strings
set_option linter.unusedVariables false
set_option linter.unusedSimpArgs false
namespace Go.Proofs.YtfcgmfefdgcmjaaDoor.V
open Go Go.Wk Go.RowKit

theorem rneg_ok (a : Int) : r1_Neg.ok a = true := by
  have e : r1_Neg.ok = w1_Neg.ok := by kernel_rfl
  rw [e]; exact Neg_ok a
theorem rneg_s (a : Int) : r1_Neg a = IntKind.i64.wrap (-a) := by
  have e : r1_Neg = w1_Neg := by kernel_rfl
  rw [e]; exact Neg_s a
theorem rabs_ok {a : Int} (h : I64 a) : r1_Abs.ok a = true := by
  have e : r1_Abs.ok = w1_Abs.ok := by kernel_rfl
  rw [e]; exact Abs_ok h
theorem rabs_s {a : Int} (h : I64 a) : r1_Abs a = av a := by
  have e : r1_Abs = w1_Abs := by kernel_rfl
  rw [e]; exact Abs_s h
theorem len_s' (s : ByteArray) : s.data.toList.length = s.size := by simp
theorem byteAt_s (s : ByteArray) (i : Nat) (h : i < s.data.toList.length) : byteAt s (i : Int) = ((s.data.toList[i]).toNat : Int) := by
  have h2 : i < s.data.size := by simpa using h
  unfold byteAt
  rw [Int.toNat_natCast, Array.getD_eq_getD_getElem?, Array.getElem?_eq_getElem h2]
  simp
theorem dgt (c : UInt8) : (bif decide ((c.toNat : Int) ≥ 48) then decide ((c.toNat : Int) ≤ 57) else false) = isD c := by
  unfold isD
  by_cases h : 48 ≤ c.toNat
  · rw [decide_eq_true (show (c.toNat : Int) ≥ 48 by omega), decide_eq_true h, cond_true, Bool.true_and]
    by_cases h2 : c.toNat ≤ 57
    · rw [decide_eq_true h2, decide_eq_true (show (c.toNat : Int) ≤ 57 by omega)]
    · rw [decide_eq_false h2, decide_eq_false (show ¬ (c.toNat : Int) ≤ 57 by omega)]
  · rw [decide_eq_false (show ¬ (c.toNat : Int) ≥ 48 by omega), decide_eq_false h]; rfl
theorem parse0 (N : Nat) (l1 : ByteArray × Bool × Int × Bool × Int → Option (Int × Int × Int)) (s : ByteArray) (hs : s.size ≤ 140737488355328) (neg : Bool) (from_ : Nat) : ∀ (m i : Nat), i ≤ s.size → s.size + 1 ≤ m + i →
    r1_Parse.L0 N l1 m (s, (i : Int), neg, (from_ : Int)) = if i + dg (s.data.toList.drop i) < s.size ∨ i + dg (s.data.toList.drop i) = from_ then some (0, 10, ((i + dg (s.data.toList.drop i) : Nat) : Int)) else l1 (s, neg, 0, false, (from_ : Int))
  | 0, i, hi, hm => by omega
  | m + 1, i, hi, hm => by
    show r1_Parse.l0.c (r1_Parse.L0 N l1 m) l1 some s (i : Int) neg (from_ : Int) = _
    unfold r1_Parse.l0.c r1_Parse.l0.c0
    have hL := len_s' s
    by_cases h : i < s.size
    · have hi' : i < s.data.toList.length := by omega
      rw [List.drop_eq_getElem_cons hi', dg_cons]
      have b1 : decide ((i : Int) < ((s.size : Nat) : Int)) = true := by simp; omega
      have b2 : decide (0 ≤ (i : Int)) = true := by simp
      have ih := parse0 N l1 s hs neg from_ m (i + 1) (by omega) (by omega)
      have w1 : IntKind.i64.wrap ((i : Int) + 1) = ((i + 1 : Nat) : Int) := by rw [wi_id (by omega) (by omega)]; push_cast; rfl
      simp only [b1, b2, byteAt_s s i hi', w1, Bool.and_self, cond_true]
      have hd := dgt s.data.toList[i]
      by_cases c1 : ((s.data.toList[i]).toNat : Int) ≥ 48
      · rw [decide_eq_true c1, cond_true] at hd ⊢
        by_cases c2 : ((s.data.toList[i]).toNat : Int) ≤ 57
        · rw [decide_eq_true c2] at hd ⊢
          rw [if_pos hd.symm, cond_true, ih]
          have e : i + (dg (s.data.toList.drop (i + 1)) + 1) = i + 1 + dg (s.data.toList.drop (i + 1)) := by omega
          rw [e]
        · rw [decide_eq_false c2] at hd ⊢
          rw [if_neg (show ¬ isD s.data.toList[i] = true by rw [← hd]; simp), cond_false, Nat.add_zero, if_pos (Or.inl h)]
      · rw [decide_eq_false c1, cond_false] at hd ⊢
        rw [if_neg (show ¬ isD s.data.toList[i] = true by rw [← hd]; simp), Nat.add_zero, if_pos (Or.inl h)]
    · have b1 : decide ((i : Int) < ((s.size : Nat) : Int)) = false := by simp; omega
      have e0 : s.data.toList.drop i = [] := List.drop_eq_nil_of_le (by omega)
      have e1 : dg [] = 0 := rfl
      rw [e0, e1, Nat.add_zero, b1]
      simp only [cond_false]
      by_cases c : i = from_
      · subst c
        rw [if_pos (Or.inr rfl), show ((i : Int) == (i : Int)) = true by simp]; rfl
      · rw [if_neg (by omega), show ((i : Int) == (from_ : Int)) = false by simp; omega]; rfl
theorem parse1b (N : Nat) (s : ByteArray) (hs : s.size ≤ 140737488355328) (neg : Bool) : ∀ (m k : Nat) (z : Int), k ≤ s.size → s.size + 1 ≤ m + k → r1_Parse.L1 N m (s, neg, z, true, (k : Int)) = some (0, 11, 0)
  | 0, k, z, hk, hm => by omega
  | m + 1, k, z, hk, hm => by
    show r1_Parse.l1.c (r1_Parse.L1 N m) some s neg z true (k : Int) = _
    unfold r1_Parse.l1.c r1_Parse.l1.c0
    by_cases h : k < s.size
    · have b1 : decide ((k : Int) < ((s.size : Nat) : Int)) = true := by simp; omega
      have b2 : decide (0 ≤ (k : Int)) = true := by simp
      have w1 : IntKind.i64.wrap ((k : Int) + 1) = ((k + 1 : Nat) : Int) := by rw [wi_id (by omega) (by omega)]; push_cast; rfl
      simp only [b1, b2, w1, Bool.and_self, cond_true]
      exact parse1b N s hs neg m (k + 1) _ (by omega) (by omega)
    · have b1 : decide ((k : Int) < ((s.size : Nat) : Int)) = false := by simp; omega
      simp only [b1, cond_false, cond_true]
theorem parse1 (N : Nat) (s : ByteArray) (hs : s.size ≤ 140737488355328) (neg : Bool) : ∀ (m k n : Nat), k ≤ s.size → s.size + 1 ≤ m + k → (∀ c ∈ s.data.toList.drop k, isD c = true) → n ≤ 9223372036854775808 →
    r1_Parse.L1 N m (s, neg, (n : Int), false, (k : Int)) = some (fin neg (tot n (s.data.toList.drop k)))
  | 0, k, n, hk, hm, hd, hn => by omega
  | m + 1, k, n, hk, hm, hd, hn => by
    show r1_Parse.l1.c (r1_Parse.L1 N m) some s neg (n : Int) false (k : Int) = _
    unfold r1_Parse.l1.c r1_Parse.l1.c0
    have hL := len_s' s
    by_cases h : k < s.size
    · have hk' : k < s.data.toList.length := by omega
      rw [List.drop_eq_getElem_cons hk'] at hd ⊢
      have hc := hd s.data.toList[k] (List.mem_cons_self ..)
      have hd' : ∀ c ∈ s.data.toList.drop (k + 1), isD c = true := fun c h => hd c (List.mem_cons_of_mem _ h)
      simp only [isD, Bool.and_eq_true, decide_eq_true_eq] at hc
      have hge := tot_ge (s.data.toList.drop (k + 1)) (n * 10 + ((s.data.toList[k]).toNat - 48))
      rw [tot_cons]
      have b1 : decide ((k : Int) < ((s.size : Nat) : Int)) = true := by simp; omega
      have b2 : decide (0 ≤ (k : Int)) = true := by simp
      have w1 : IntKind.i64.wrap ((k : Int) + 1) = ((k + 1 : Nat) : Int) := by rw [wi_id (by omega) (by omega)]; push_cast; rfl
      simp only [b1, b2, w1, byteAt_s s k hk', Bool.and_self, cond_true, cond_false]
      have ih := parse1 N s hs neg m (k + 1)
      have ihb := parse1b N s hs neg m (k + 1)
      generalize (s.data.toList[k]).toNat = c at *
      have u8 : IntKind.u8.wrap ((c : Int) - 48) = ((c - 48 : Nat) : Int) := by
        have e : ∀ x : Int, IntKind.u8.wrap x = x % 256 := fun x => by simp [IntKind.wrap, IntKind.signed, IntKind.bits]
        rw [e]; omega
      have u64 : IntKind.u64.wrap (((c - 48 : Nat) : Int)) = ((c - 48 : Nat) : Int) := wu_id (by omega) (by omega)
      rw [u8, u64]
      have t6 : IntKind.u64.wrap (9223372036854775808 - ((c - 48 : Nat) : Int)) = 9223372036854775808 - ((c - 48 : Nat) : Int) := wu_id (by omega) (by omega)
      have t7 : IntKind.u64.wrap ((9223372036854775808 - ((c - 48 : Nat) : Int)).tdiv 10) = (9223372036854775808 - ((c - 48 : Nat) : Int)) / 10 := by
        rw [Int.tdiv_eq_ediv_of_nonneg (by omega)]; exact wu_id (by omega) (by omega)
      rw [t6, t7]
      by_cases hb : n * 10 + (c - 48) ≤ 9223372036854775808
      · rw [decide_eq_false (show ¬ (n : Int) > (9223372036854775808 - ((c - 48 : Nat) : Int)) / 10 by omega)]
        have e4 : IntKind.u64.wrap (IntKind.u64.wrap ((n : Int) * 10) + ((c - 48 : Nat) : Int)) = ((n * 10 + (c - 48) : Nat) : Int) := by
          rw [wu_eq, wu_eq]; omega
        rw [e4]
        exact ih (n * 10 + (c - 48)) (by omega) (by omega) hd' hb
      · rw [decide_eq_true (show (n : Int) > (9223372036854775808 - ((c - 48 : Nat) : Int)) / 10 by omega), ihb _ (by omega) (by omega)]
        unfold fin
        rw [if_pos (by omega)]
    · have b1 : decide ((k : Int) < ((s.size : Nat) : Int)) = false := by simp; omega
      have e0 : s.data.toList.drop k = [] := List.drop_eq_nil_of_le (by omega)
      have e1 : tot n [] = n := rfl
      rw [e0, e1]
      simp only [b1, cond_false, rneg_ok, rneg_s, cond_true]
      unfold fin
      rw [decide_eq_false (show ¬ (n : Int) > 9223372036854775808 by omega), cond_false, if_neg (by omega)]
      by_cases h2 : n = 9223372036854775808
      · subst h2
        cases neg
        · rfl
        · rfl
      · rw [show ((n : Int) == 9223372036854775808) = false by simp; omega, cond_false, if_neg (by omega)]
        have e3 : IntKind.i64.wrap (n : Int) = (n : Int) := wi_id (by omega) (by omega)
        rw [e3]
        cases neg
        · rfl
        · show some (IntKind.i64.wrap (-(n : Int)), (0 : Int), (0 : Int)) = _
          rw [wi_id (by omega) (by omega)]; rfl
theorem take_all {l : List UInt8} (h : dg l = l.length) : ∀ c ∈ l, isD c = true := by
  induction l with
  | nil => intro c hc; simp at hc
  | cons d l ih =>
    rw [dg_cons] at h
    by_cases hd : isD d = true
    · rw [if_pos hd] at h
      intro c hc
      rcases List.mem_cons.1 hc with rfl | hc
      · exact hd
      · exact ih (by simpa using h) c hc
    · rw [if_neg hd] at h; simp at h
theorem parse_o (s : ByteArray) (hs : s.size ≤ 140737488355328) : r1_Parse.o (s.size + 2) s = some (parseS s.data.toList) := by
  unfold r1_Parse.o r1_Parse.c r1_Parse.c0
  have hL := len_s' s
  have key : ∀ (neg : Bool) (k : Nat), k ≤ s.size → neg = isNeg s.data.toList → k = k0 s.data.toList → r1_Parse.L0 (s.size + 2) (r1_Parse.L1 (s.size + 2) (s.size + 2)) (s.size + 2) (s, (k : Int), neg, (k : Int)) = some (parseS s.data.toList) := by
    intro neg k hk hn hk0
    rw [parse0 _ _ s hs neg k _ k hk (by omega)]
    unfold parseS
    simp only
    rw [← hk0, hL]
    by_cases c : k + dg (s.data.toList.drop k) < s.size ∨ k + dg (s.data.toList.drop k) = k
    · rw [if_pos c, if_pos c]
    · rw [if_neg c, if_neg c]
      have hle := dg_le (s.data.toList.drop k)
      rw [List.length_drop, hL] at hle
      have := parse1 (s.size + 2) s hs neg (s.size + 2) k 0 hk (by omega) (take_all (by rw [List.length_drop, hL]; omega)) (by omega)
      rw [← hn]
      exact this
  by_cases h : s.size = 0
  · rw [h] at key ⊢
    rw [decide_eq_false (by decide), cond_false]
    have e : s.data.toList = [] := List.length_eq_zero_iff.1 (by omega)
    have := key false 0 (by omega) (by rw [e]; rfl) (by rw [e]; rfl)
    exact this
  · have h0 : 0 < s.data.toList.length := by omega
    have eb : byteAt s 0 = ((s.data.toList[0]).toNat : Int) := byteAt_s s 0 h0
    have hn : (byteAt s 0 == 45) = isNeg s.data.toList := by
      rw [eb]
      have : isNeg s.data.toList = Nat.beq (s.data.toList[0]'h0).toNat 45 := by
        generalize s.data.toList = l at h0
        cases l with
        | nil => simp at h0
        | cons c r => rfl
      rw [this]
      by_cases q : (s.data.toList[0]'h0).toNat = 45
      · rw [q]; rfl
      · rw [show (((s.data.toList[0]'h0).toNat : Int) == 45) = false by rw [beq_eq_false_iff_ne]; omega]
        cases hq : Nat.beq (s.data.toList[0]'h0).toNat 45 with
        | false => rfl
        | true => exact absurd (Nat.eq_of_beq_eq_true hq) q
    rw [decide_eq_true (show ((s.size : Nat) : Int) > 0 by omega), hn]
    have hk : (bif isNeg s.data.toList then (1 : Int) else 0) = ((k0 s.data.toList : Nat) : Int) := by unfold k0; cases isNeg s.data.toList <;> rfl
    rw [hk]
    have hk1 : k0 s.data.toList ≤ 1 := by unfold k0; cases isNeg s.data.toList <;> simp
    exact key _ _ (by omega) rfl rfl
theorem rparse_g {s : ByteArray} (hs : s.size ≤ 140737488355328) : r1_Parse.g s = true := by unfold r1_Parse.g; rw [hide_eq, parse_o s hs]; rfl
theorem rparse_s {s : ByteArray} (hs : s.size ≤ 140737488355328) : r1_Parse s = parseS s.data.toList := by unfold r1_Parse; rw [hide_eq, parse_o s hs]; rfl
end Go.Proofs.YtfcgmfefdgcmjaaDoor.V
