/- How the document writes a number; what is read of a written number. Conditions: none. -/
import Derived.Test.YtfcgmfefdgcmjaaDoorQ5
set_option linter.unusedVariables false
set_option linter.unusedSimpArgs false
namespace Go.Proofs.YtfcgmfefdgcmjaaDoor.V
open Go Go.Wk Go.RowKit

def mk (l : List UInt8) : ByteArray := ⟨l.toArray⟩
theorem mk_data (l : List UInt8) : (mk l).data.toList = l := by unfold mk; simp
theorem ba_ext {a b : ByteArray} (h : a.data.toList = b.data.toList) : a = b := by
  cases a; cases b
  simp only [ByteArray.mk.injEq] at *
  exact Array.ext' h
theorem mk_append (l m : List UInt8) : mk l ++ mk m = mk (l ++ m) := by
  apply ba_ext
  rw [ByteArray.data_append, Array.toList_append, mk_data, mk_data, mk_data]
def dig (n : Nat) : UInt8 := UInt8.ofNat (48 + n % 10)
theorem byte1_dig (n : Nat) (h : n < 18446744073709551616) : byte1 (IntKind.u8.wrap (IntKind.u64.wrap (48 + (n : Int).tmod 10))) = mk [dig n] := by
  have e : IntKind.u8.wrap (IntKind.u64.wrap (48 + (n : Int).tmod 10)) = ((48 + n % 10 : Nat) : Int) := by
    have e8 : ∀ x : Int, IntKind.u8.wrap x = x % 256 := fun x => by simp [IntKind.wrap, IntKind.signed, IntKind.bits]
    rw [Int.tmod_eq_emod_of_nonneg (by omega), e8, wu_eq]; omega
  rw [e]
  unfold byte1 mk dig
  rw [Int.toNat_natCast]
  rfl
theorem isEmpty_mk (l : List UInt8) : ((mk l).toList == ({ data := #[] } : ByteArray).toList) = l.isEmpty := by
  rw [ByteArray.toList_eq, ByteArray.toList_eq, mk_data]
  cases l <;> rfl
def sgn (a : Int) (l : List UInt8) : List UInt8 := if a < 0 then 45 :: l else l
theorem sgn_s (a : Int) (l : List UInt8) : (bif decide (a < 0) then ({ data := #[45] } : ByteArray) ++ mk l else mk l) = mk (sgn a l) := by
  unfold sgn
  by_cases h : a < 0
  · rw [decide_eq_true h, if_pos h, cond_true]
    exact mk_append [45] l
  · rw [decide_eq_false h, if_neg h, cond_false]
theorem size_mk (l : List UInt8) : (mk l).size = l.length := by unfold mk; simp [ByteArray.size]
theorem digits_rec (n : Nat) : Lib.decDigits n = if n < 10 then [dig n] else Lib.decDigits (n / 10) ++ [dig n] := by
  rw [Lib.decDigits]
  by_cases h : n < 10
  · rw [dif_pos h, if_pos h]; unfold dig; rw [Nat.mod_eq_of_lt h]
  · rw [dif_neg h, if_neg h]; rfl
theorem exit_L (N : Nat) (a : Int) (q : Nat) (l : List UInt8) (hne : l ≠ []) (hl : l.length ≤ 60) : r1_Print.L0 N (q + 1) (a, 0, mk l) = some (mk (sgn a l)) := by
  show r1_Print.l0.c (r1_Print.L0 N q) some a 0 (mk l) = _
  unfold r1_Print.l0.c r1_Print.l0.c0
  have he : l.isEmpty = false := by cases l with
    | nil => exact absurd rfl hne
    | cons c r => rfl
  rw [isEmpty_mk, he, sgn_s]
  have e1 : decide ((((({ data := #[45] } : ByteArray).size + (mk l).size : Nat)) : Int) > 9223372036854775807) = false := by
    have : (({ data := #[45] } : ByteArray)).size = 1 := rfl
    rw [this, size_mk]; simp; omega
  simp only [e1]
  rfl
theorem round_L (N : Nat) (a : Int) (q n : Nat) (l : List UInt8) (h : 0 < n ∨ l = []) (h64 : n < 18446744073709551616) (hl : l.length ≤ 60) : r1_Print.L0 N (q + 1) (a, (n : Int), mk l) = r1_Print.L0 N q (a, ((n / 10 : Nat) : Int), mk (dig n :: l)) := by
  show r1_Print.l0.c (r1_Print.L0 N q) some a (n : Int) (mk l) = _
  unfold r1_Print.l0.c r1_Print.l0.c0
  have t1 : IntKind.u64.wrap ((n : Int).tdiv 10) = ((n / 10 : Nat) : Int) := by
    rw [Int.tdiv_eq_ediv_of_nonneg (by omega), wu_id (by omega) (by omega)]; push_cast; rfl
  have e1 : decide (((((mk [dig n]).size + (mk l).size : Nat)) : Int) > 9223372036854775807) = false := by
    rw [size_mk, size_mk]; simp; omega
  rw [isEmpty_mk]
  simp only [byte1_dig n h64, t1, e1, Bool.not_false, cond_true, mk_append, List.cons_append, List.nil_append]
  by_cases h0 : 0 < n
  · rw [decide_eq_true (show (n : Int) > 0 by omega)]; rfl
  · have : l = [] := by rcases h with h | h; · exact absurd h h0
                        · exact h
    subst this
    rw [decide_eq_false (show ¬ (n : Int) > 0 by omega)]; rfl
theorem print_L (N : Nat) (a : Int) : ∀ (m n : Nat) (l : List UInt8), n < 10 ^ m → n < 18446744073709551616 → l.length + m ≤ 40 → 0 < n →
    r1_Print.L0 N (m + 2) (a, (n : Int), mk l) = some (mk (sgn a (Lib.decDigits n ++ l)))
  | 0, n, l, hm, h64, hl, h0 => by simp at hm; omega
  | m + 1, n, l, hm, h64, hl, h0 => by
    rw [round_L N a (m + 2) n l (.inl h0) h64 (by omega), digits_rec n]
    by_cases h : n < 10
    · rw [if_pos h, show n / 10 = 0 by omega]
      exact exit_L N a (m + 1) (dig n :: l) (by simp) (by simp; omega)
    · rw [if_neg h, print_L N a m (n / 10) (dig n :: l) (by rw [Nat.pow_succ] at hm; omega) (by omega) (by simp; omega) (by omega), List.append_assoc]
      rfl
theorem print_o {a : Int} (h : I64 a) : r1_Print.o 30 a = some (mk (sgn a (Lib.decDigits a.natAbs))) := by
  unfold r1_Print.o r1_Print.c r1_Print.c0
  have e : av a = ((a.natAbs : Nat) : Int) := by unfold av; split <;> omega
  have hb : a.natAbs < 18446744073709551616 := by unfold I64 at h; omega
  simp only [rabs_ok h, rabs_s h, e, cond_true]
  show r1_Print.L0 30 30 (a, ((a.natAbs : Nat) : Int), mk []) = _
  by_cases h0 : a.natAbs = 0
  · rw [h0, round_L 30 a 29 0 [] (.inr rfl) (by omega) (by simp)]
    have := exit_L 30 a 28 [dig 0] (by simp) (by simp)
    rw [show (0 / 10 : Nat) = 0 from rfl]
    rw [digits_rec 0, if_pos (by omega)]
    exact this
  · rw [print_L 30 a 28 a.natAbs [] (by have : (10 : Nat) ^ 28 = 10000000000000000000000000000 := by decide
                                        omega) hb (by simp) (by omega), List.append_nil]
theorem itoa_eq (a : Int) : Lib.itoa a = sgn a (Lib.decDigits a.natAbs) := by
  unfold Lib.itoa sgn
  by_cases h : a < 0
  · rw [if_pos h, if_pos h]
  · rw [if_neg h, if_neg h]; congr 1; omega
theorem rprint_g {a : Int} (h : I64 a) : r1_Print.g a = true := by unfold r1_Print.g; rw [hide_eq, print_o h]; rfl
theorem rprint_s {a : Int} (h : I64 a) : r1_Print a = numText a := by unfold r1_Print; rw [hide_eq, print_o h, ← itoa_eq]; rfl
theorem min_text : Lib.itoa (-9223372036854775808) = [45, 57, 50, 50, 51, 51, 55, 50, 48, 51, 54, 56, 53, 52, 55, 55, 53, 56, 48, 56] := by
  simp [Lib.itoa, Lib.decDigits]
theorem wprint_ok {a : Int} (h : I64 a) : word_PrintT.ok a = true := by
  unfold I64 at h
  unfold word_PrintT.ok word_PrintT.c word_PrintT.c0 rngI
  by_cases c : a = -9223372036854775808
  · subst c; rfl
  · rw [show (a == -9223372036854775808) = false by simpa using c, cond_false, decide_eq_true h.1, decide_eq_true h.2]; rfl
theorem wprint_s {a : Int} (h : I64 a) : word_PrintT a = numText a := by
  unfold I64 at h
  unfold word_PrintT word_PrintT.c word_PrintT.c0 rngI
  by_cases c : a = -9223372036854775808
  · subst c; unfold numText; rw [min_text]; rfl
  · rw [show (a == -9223372036854775808) = false by simpa using c, cond_false, decide_eq_true h.1, decide_eq_true h.2]; rfl
/-! back -/
theorem dig_D (n : Nat) : isD (dig n) = true ∧ (dig n).toNat - 48 = n % 10 := by
  have e : (dig n).toNat = 48 + n % 10 := by
    unfold dig
    rw [UInt8.toNat_ofNat']; omega
  unfold isD
  rw [e]
  exact ⟨by simp; omega, by omega⟩
theorem tot_append (l m : List UInt8) (n : Nat) : tot n (l ++ m) = tot (tot n l) m := by unfold tot; rw [List.foldl_append]
theorem digits_D : ∀ (u : Nat), (∀ c ∈ Lib.decDigits u, isD c = true) ∧ tot 0 (Lib.decDigits u) = u ∧ Lib.decDigits u ≠ [] := by
  intro u
  induction u using Nat.strongRecOn with
  | ind u ih =>
    rw [digits_rec u]
    by_cases h : u < 10
    · rw [if_pos h]
      refine ⟨fun c hc => ?_, ?_, by simp⟩
      · rw [List.mem_singleton] at hc; subst hc; exact (dig_D u).1
      · rw [tot_cons, (dig_D u).2]
        show 0 * 10 + u % 10 = u
        omega
    · rw [if_neg h]
      obtain ⟨a, b, c⟩ := ih (u / 10) (by omega)
      refine ⟨fun d hd => ?_, ?_, by simp⟩
      · rcases List.mem_append.1 hd with hd | hd
        · exact a d hd
        · rw [List.mem_singleton] at hd; subst hd; exact (dig_D u).1
      · rw [tot_append, b, tot_cons, (dig_D u).2]
        show u / 10 * 10 + u % 10 = u
        omega
theorem dg_all {l : List UInt8} (h : ∀ c ∈ l, isD c = true) : dg l = l.length := by
  induction l with
  | nil => rfl
  | cons c r ih => rw [dg_cons, if_pos (h c (List.mem_cons_self ..)), ih (fun d hd => h d (List.mem_cons_of_mem _ hd))]; rfl
theorem back {a : Int} (h : I64 a) : parseS (numText a).data.toList = (a, 0, 0) := by
  have e : (numText a).data.toList = sgn a (Lib.decDigits a.natAbs) := by unfold numText; rw [itoa_eq]
  rw [e]
  obtain ⟨d1, d2, d3⟩ := digits_D a.natAbs
  unfold I64 at h
  have hne : 0 < (Lib.decDigits a.natAbs).length := List.length_pos_iff.2 d3
  unfold sgn
  by_cases c : a < 0
  · rw [if_pos c]
    have n1 : isNeg (45 :: Lib.decDigits a.natAbs) = true := rfl
    have k1 : k0 (45 :: Lib.decDigits a.natAbs) = 1 := by unfold k0; rw [n1]; rfl
    unfold parseS
    simp only [k1, n1, List.drop_succ_cons, List.drop_zero, dg_all d1, d2, List.length_cons]
    rw [if_neg (by omega)]
    unfold fin
    rw [if_neg (by omega), if_neg (by simp), cond_true, show -((a.natAbs : Nat) : Int) = a by omega]
  · rw [if_neg c]
    have n1 : isNeg (Lib.decDigits a.natAbs) = false := by
      cases hl : Lib.decDigits a.natAbs with
      | nil => rfl
      | cons x r =>
        have := d1 x (by rw [hl]; exact List.mem_cons_self ..)
        simp only [isD, Bool.and_eq_true, decide_eq_true_eq] at this
        show Nat.beq x.toNat 45 = false
        cases hq : Nat.beq x.toNat 45 with
        | false => rfl
        | true => have := Nat.eq_of_beq_eq_true hq; omega
    have k1 : k0 (Lib.decDigits a.natAbs) = 0 := by unfold k0; rw [n1]; rfl
    unfold parseS
    simp only [k1, n1, List.drop_zero, dg_all d1, d2]
    rw [if_neg (by omega)]
    unfold fin
    rw [if_neg (by omega), if_neg (by omega), cond_false, show ((a.natAbs : Nat) : Int) = a by omega]
end Go.Proofs.YtfcgmfefdgcmjaaDoor.V
