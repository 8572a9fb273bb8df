/- Decimal texts: digits at a place, what they say; what is read of a text. Conditions: none. -/
import Derived.Lib.ParseIntBTie
set_option linter.unusedVariables false
set_option linter.unusedSimpArgs false
namespace Go.Proofs.YtfcgmfefdgcmjaaDoor.V
open Go

def isD (c : UInt8) : Bool := decide (48 ≤ c.toNat) && decide (c.toNat ≤ 57)
def dg (l : List UInt8) : Nat := (l.takeWhile isD).length
def tot (n : Nat) (l : List UInt8) : Nat := l.foldl (fun a c => a * 10 + (c.toNat - 48)) n
def isNeg (l : List UInt8) : Bool := match l with
  | c :: _ => Nat.beq c.toNat 45
  | [] => false
def k0 (l : List UInt8) : Nat := bif isNeg l then 1 else 0
def fin (neg : Bool) (T : Nat) : Int × Int × Int := if 9223372036854775808 < T then (0, 11, 0) else if T = 9223372036854775808 ∧ neg = false then (0, 11, 0) else (bif neg then -(T : Int) else (T : Int), 0, 0)
def parseS (l : List UInt8) : Int × Int × Int :=
  let e := k0 l + dg (l.drop (k0 l))
  if e < l.length ∨ e = k0 l then (0, 10, (e : Int)) else fin (isNeg l) (tot 0 (l.drop (k0 l)))

theorem dg_le (l : List UInt8) : dg l ≤ l.length := by unfold dg; exact (List.takeWhile_sublist _).length_le
theorem dg_cons (c : UInt8) (l : List UInt8) : dg (c :: l) = if isD c = true then dg l + 1 else 0 := by
  unfold dg
  rw [List.takeWhile_cons]
  by_cases h : isD c = true
  · simp [h]
  · simp [h]
/-- the digits from a place on, told by looking at each -/
theorem dg_at : ∀ (l : List UInt8) (k : Nat), k ≤ l.length → (∀ j, (h : j < l.length) → j < k → isD l[j] = true) → (∀ h : k < l.length, isD l[k] = false) → dg l = k
  | [], k, hk, _, _ => by simp at hk; subst hk; rfl
  | c :: l, 0, hk, _, h2 => by
    have := h2 (by simp)
    simp at this
    rw [dg_cons, this]; rfl
  | c :: l, k + 1, hk, h1, h2 => by
    have hc := h1 0 (by simp) (by omega)
    simp at hc
    rw [dg_cons, if_pos hc, dg_at l k (by simpa using hk) (fun j h hj => by have := h1 (j + 1) (by simpa using h) (by omega); simpa using this) (fun h => by have := h2 (by simpa using h); simpa using this)]
theorem tot_ge : ∀ (l : List UInt8) (n : Nat), n ≤ tot n l
  | [], n => Nat.le_refl _
  | c :: l, n => by
    have := tot_ge l (n * 10 + (c.toNat - 48))
    show n ≤ tot (n * 10 + (c.toNat - 48)) l
    omega
theorem tot_cons (c : UInt8) (l : List UInt8) (n : Nat) : tot n (c :: l) = tot (n * 10 + (c.toNat - 48)) l := by
  unfold tot; rw [List.foldl_cons]
theorem uintM_cons {M n A : Nat} (hA : A = 1844674407370955162) {c : UInt8} {l : List UInt8} (hc : 48 ≤ c.toNat ∧ c.toNat ≤ 57) :
    Lib.parseUintM M n (c :: l) = if A ≤ n then .range else if M < n * 10 + (c.toNat - 48) then .range else Lib.parseUintM M (n * 10 + (c.toNat - 48)) l := by
  rw [Lib.parseUintM, if_pos hc, hA]
/-- the library's reading of digits -/
theorem uintM_digits {M A : Nat} (hA : A = 1844674407370955162) (hM : M < A * 10) (l : List UInt8) : ∀ (n : Nat), (∀ c ∈ l, isD c = true) → n ≤ M → Lib.parseUintM M n l = if tot n l ≤ M then .ok (tot n l) else .range := by
  induction l with
  | nil =>
    intro n _ hn
    exact (if_pos (show tot n [] ≤ M from hn)).symm
  | cons c l ih =>
    intro n h hn
    have hc := h c (List.mem_cons_self ..)
    simp only [isD, Bool.and_eq_true, decide_eq_true_eq] at hc
    have hge := tot_ge l (n * 10 + (c.toNat - 48))
    rw [uintM_cons hA hc, tot_cons]
    clear hA
    by_cases h1 : A ≤ n
    · rw [if_pos h1, if_neg (by omega)]
    · rw [if_neg h1]
      by_cases h2 : M < n * 10 + (c.toNat - 48)
      · rw [if_pos h2, if_neg (by omega)]
      · rw [if_neg h2]
        exact ih _ (fun d hd => h d (List.mem_cons_of_mem _ hd)) (by omega)
theorem p64 : 2 ^ 64 - 1 < 1844674407370955162 * 10 := by decide
theorem p63 : 2 ^ (64 - 1) = 9223372036854775808 := by decide
/-- the library's reading of a text of digits, with a sign or without -/
theorem parseInt_digits (l : List UInt8) (hne : l.drop (k0 l) ≠ []) (hd : ∀ c ∈ l.drop (k0 l), isD c = true) :
    Lib.parseIntB 64 l = if 9223372036854775808 < tot 0 (l.drop (k0 l)) ∨ (tot 0 (l.drop (k0 l)) = 9223372036854775808 ∧ isNeg l = false) then .range else .ok (fin (isNeg l) (tot 0 (l.drop (k0 l)))).1 := by
  match l with
  | [] => simp [k0, isNeg] at hne
  | c :: r =>
    have hneg : isNeg (c :: r) = Nat.beq c.toNat 45 := rfl
    unfold Lib.parseIntB
    simp only
    rw [p63]
    by_cases h : c.toNat = 45
    · have hb : Nat.beq c.toNat 45 = true := by rw [h]; rfl
      have hk : k0 (c :: r) = 1 := by unfold k0; rw [hneg, hb]; rfl
      rw [hk] at hne hd ⊢
      simp only [List.drop_succ_cons, List.drop_zero] at hne hd ⊢
      rw [if_pos (Or.inr h), hneg, hb]
      unfold Lib.parseUintB
      rw [if_neg hne, uintM_digits rfl p64 r 0 hd (by omega)]
      generalize tot 0 r = T
      by_cases h1 : T ≤ 2 ^ 64 - 1
      · rw [if_pos h1]
        show (if ¬ c.toNat = 45 ∧ 9223372036854775808 ≤ T then Lib.NumEnd.range else if c.toNat = 45 ∧ 9223372036854775808 < T then Lib.NumEnd.range else Lib.NumEnd.ok (if c.toNat = 45 then -(T : Int) else T)) = _
        rw [if_neg (fun q => q.1 h)]
        by_cases h2 : 9223372036854775808 < T
        · rw [if_pos ⟨h, h2⟩, if_pos (Or.inl h2)]
        · rw [if_neg (fun (q : c.toNat = 45 ∧ 9223372036854775808 < T) => h2 q.2), if_neg (show ¬ (9223372036854775808 < T ∨ T = 9223372036854775808 ∧ true = false) from fun q => q.elim h2 (fun z => Bool.noConfusion z.2)), if_pos h]
          unfold fin
          rw [if_neg h2, if_neg (by simp)]
          rfl
      · rw [if_neg h1, if_pos (Or.inl (by omega))]
    · have hb : Nat.beq c.toNat 45 = false := by
        cases hq : Nat.beq c.toNat 45 with
        | false => rfl
        | true => exact absurd (Nat.eq_of_beq_eq_true hq) h
      have hk : k0 (c :: r) = 0 := by unfold k0; rw [hneg, hb]; rfl
      rw [hk] at hne hd ⊢
      simp only [List.drop_zero] at hne hd ⊢
      have hc := hd c (by simp)
      simp only [isD, Bool.and_eq_true, decide_eq_true_eq] at hc
      rw [if_neg (by omega), hneg, hb]
      unfold Lib.parseUintB
      rw [if_neg (by simp), uintM_digits rfl p64 (c :: r) 0 hd (by omega)]
      generalize tot 0 (c :: r) = T
      by_cases h1 : T ≤ 2 ^ 64 - 1
      · rw [if_pos h1]
        show (if ¬ c.toNat = 45 ∧ 9223372036854775808 ≤ T then Lib.NumEnd.range else if c.toNat = 45 ∧ 9223372036854775808 < T then Lib.NumEnd.range else Lib.NumEnd.ok (if c.toNat = 45 then -(T : Int) else T)) = _
        by_cases h2 : 9223372036854775808 ≤ T
        · rw [if_pos ⟨h, h2⟩, if_pos (by rcases Nat.lt_or_ge 9223372036854775808 T with q | q; · exact .inl q
                                         · exact .inr ⟨by omega, rfl⟩)]
        · rw [if_neg (fun (q : ¬ c.toNat = 45 ∧ 9223372036854775808 ≤ T) => h2 q.2), if_neg (fun (q : c.toNat = 45 ∧ 9223372036854775808 < T) => h q.1), if_neg (show ¬ (9223372036854775808 < T ∨ T = 9223372036854775808 ∧ false = false) by omega), if_neg h]
          unfold fin
          rw [if_neg (by omega), if_neg (by omega)]
          rfl
      · rw [if_neg h1, if_pos (Or.inl (by omega))]
end Go.Proofs.YtfcgmfefdgcmjaaDoor.V
