/- WordDivides: divisors, the power of two, remainders that go up by one. Conditions: none. -/
import Derived.Test.YtfcgmfefdgcmjaaDoorQ3
set_option linter.unusedVariables false
set_option linter.unusedSimpArgs false
namespace Go.Proofs.YtfcgmfefdgcmjaaDoor.V
open Go Go.Wk Go.RowKit

theorem gg_null {a b : Int} (ha : 0 ≤ a) (hb : 0 ≤ b) : (gg a b == 0) = (bif a == 0 then b == 0 else false) := by
  by_cases h : a = 0
  · subst h
    rw [gg_comm, gg_zero hb]; rfl
  · have := gg_pos ha hb (.inl h)
    rw [show (a == 0) = false by simpa using h, cond_false]
    simp; omega
theorem gg_cop {a b : Int} (ha : 0 ≤ a) (hb : 0 ≤ b) (h : 0 < gg a b) : gg (a / gg a b) (b / gg a b) = 1 := by
  have d := gg_dvd ha hb
  have ha' : 0 ≤ a / gg a b := Int.ediv_nonneg ha (by omega)
  have hb' : 0 ≤ b / gg a b := Int.ediv_nonneg hb (by omega)
  have d2 := gg_dvd ha' hb'
  have e1 : gg a b * (a / gg a b) = a := Int.mul_ediv_cancel' d.1
  have e2 : gg a b * (b / gg a b) = b := Int.mul_ediv_cancel' d.2
  have m1 : gg a b * gg (a / gg a b) (b / gg a b) ∣ a := by
    have := Int.mul_dvd_mul (Int.dvd_refl (gg a b)) d2.1
    rwa [e1] at this
  have m2 : gg a b * gg (a / gg a b) (b / gg a b) ∣ b := by
    have := Int.mul_dvd_mul (Int.dvd_refl (gg a b)) d2.2
    rwa [e2] at this
  have m3 := Int.le_of_dvd h (dvd_gg ha hb m1 m2)
  have n0 : a / gg a b ≠ 0 ∨ b / gg a b ≠ 0 := by
    rcases Decidable.em (a / gg a b = 0) with z | z
    · rcases Decidable.em (b / gg a b = 0) with z' | z'
      · rw [z, Int.mul_zero] at e1
        rw [z', Int.mul_zero] at e2
        rw [← e1, ← e2] at h
        exact absurd h (by decide)
      · exact .inr z'
    · exact .inl z
  have p := gg_pos ha' hb' n0
  generalize gg (a / gg a b) (b / gg a b) = e at *
  rcases Int.lt_or_le 1 e with z | z
  · have := Int.mul_le_mul_of_nonneg_left (show 2 ≤ e by omega) (show 0 ≤ gg a b by omega)
    omega
  · omega
theorem low_and (j : Nat) (h : (2 : Int) ^ j < 18446744073709551616) : andI .u64 (2 ^ j) (2 ^ j - 1) = 0 := by
  have hp : (0 : Int) < 2 ^ j := Int.pow_pos (by decide)
  rw [andU]
  have e1 : ((2 : Int) ^ j % 18446744073709551616).toNat = 2 ^ j := by
    rw [Int.emod_eq_of_lt (by omega) h]
    have : ((2 : Int) ^ j) = ((2 ^ j : Nat) : Int) := by push_cast; rfl
    rw [this, Int.toNat_natCast]
  have e2 : (((2 : Int) ^ j - 1) % 18446744073709551616).toNat = 2 ^ j - 1 := by
    rw [Int.emod_eq_of_lt (by omega) (by omega)]
    have : ((2 : Int) ^ j) = ((2 ^ j : Nat) : Int) := by push_cast; rfl
    rw [this]; omega
  rw [e1, e2, Nat.and_two_pow_sub_one_eq_mod, Nat.mod_self]
  rfl
theorem mod_next {c d : Int} (hd : 0 < d) : (c + 1) % d = if c % d = d - 1 then 0 else c % d + 1 := by
  have h1 := Int.emod_nonneg c (show d ≠ 0 by omega)
  have h2 := Int.emod_lt_of_pos c hd
  have h3 := Int.emod_add_mul_ediv c d
  split
  · rename_i h
    refine mod_of (q := c / d + 1) ?_ (by omega) (by omega)
    rw [Int.mul_add]; omega
  · exact mod_of (q := c / d) (by omega) (by omega) (by omega)
theorem divides_ok {a b c d : Int} (ha : U64 a) (hb : U64 b) (hc : I64 c) (hd : U64 d) : law_WordDivides.c none (fun q => some (.bool (q) : Value)) a b c d = some (.bool true) := by
  have hgU := gg_U ha hb
  have e0 := gg_null ha.1 hb.1
  have hcop := @gg_cop a b ha.1 hb.1
  have hdv := gg_dvd ha.1 hb.1
  have ka : 0 ≤ a / gg a b ∧ a / gg a b ≤ a := ⟨Int.ediv_nonneg ha.1 hgU.1, Int.ediv_le_self _ ha.1⟩
  have kb : 0 ≤ b / gg a b ∧ b / gg a b ≤ b := ⟨Int.ediv_nonneg hb.1 hgU.1, Int.ediv_le_self _ hb.1⟩
  have q1 : IntKind.u64.wrap (a.tdiv (gg a b)) = a / gg a b := by rw [Int.tdiv_eq_ediv_of_nonneg ha.1]; exact wu_id ka.1 (by unfold U64 at ha; omega)
  have q2 : IntKind.u64.wrap (b.tdiv (gg a b)) = b / gg a b := by rw [Int.tdiv_eq_ediv_of_nonneg hb.1]; exact wu_id kb.1 (by unfold U64 at hb; omega)
  have r1 : a.tmod (gg a b) = 0 := by rw [Int.tmod_eq_emod_of_nonneg ha.1]; exact Int.emod_eq_zero_of_dvd hdv.1
  have r2 : b.tmod (gg a b) = 0 := by rw [Int.tmod_eq_emod_of_nonneg hb.1]; exact Int.emod_eq_zero_of_dvd hdv.2
  unfold law_WordDivides.c law_WordDivides.c0
  simp only [gcd_g ha.1 hb.1, gcd_g hb.1 ha.1, gcd_s ha.1 hb.1, gcd_s hb.1 ha.1, gg_comm b a, q1, q2, r1, r2, gcd_g ka.1 kb.1, gcd_s ka.1 kb.1, ← e0, beq_self_eq_true, bne_self_eq_false, Bool.not_true, Bool.not_false, cond_false, cond_true, Bool.true_or, Bool.and_true,
    mod_s hc hd, mod_s hc (show U64 0 by unfold U64; omega), mod_s (show I64 0 by unfold I64; omega) hd, taken_ok, taken_s]
  have g0 : (!decide (gg a b = 0) || !decide (gg a b > 0)) = true := by
    by_cases h : gg a b = 0
    · rw [h]; decide
    · simp [h]
  have g1 : (bif decide (gg a b > 0) then gg (a / gg a b) (b / gg a b) != 1 else false) = false := by
    by_cases h : gg a b > 0
    · rw [hcop h]; simp
    · simp [h]
  simp only [g0, g1, Bool.true_or, Bool.and_true, Bool.true_and, cond_true, cond_false, Bool.and_self]
  by_cases h0 : d = 0
  · subst h0
    have e : word_Even 0 = 0 := by unfold word_Even word_Even.c word_Even.c0; rw [id, andU]; simp
    have e2 : md c 0 = IntKind.u64.wrap c := by unfold md; rw [if_pos rfl, wu_eq]
    simp only [e, e2, beq_self_eq_true, cond_true, Bool.or_true, Bool.true_or, Bool.and_self]
  · have h00 : 0 < d := by unfold U64 at hd; omega
    obtain ⟨j, hj⟩ := Tz.ex h00
    have hl := hj.lt h00 (w := 64) (by unfold U64 at hd; exact hd.2)
    have ev := even_s hd h00 hj
    obtain ⟨o, eo, ho⟩ := hj
    have hp : (0 : Int) < 2 ^ j := Int.pow_pos (by decide)
    have hlt : (2 : Int) ^ j < 18446744073709551616 := by unfold U64 at hd; omega
    have x1 : IntKind.u64.wrap (2 ^ j - 1) = 2 ^ j - 1 := wu_id (by omega) (by omega)
    have x2 : d.tmod (2 ^ j) = 0 := by rw [Int.tmod_eq_emod_of_nonneg hd.1, eo]; exact Int.mul_emod_right _ _
    have x3 : IntKind.u64.wrap (d.tdiv (2 ^ j)) = o := by
      have : d / 2 ^ j = o := by rw [eo]; exact Int.mul_ediv_cancel_left _ (by omega)
      rw [Int.tdiv_eq_ediv_of_nonneg hd.1, this]
      have ho1 : 0 ≤ o := by rw [← this]; exact Int.ediv_nonneg hd.1 (by omega)
      have ho2 : o ≤ d := by rw [← this]; exact Int.ediv_le_self _ hd.1
      exact wu_id ho1 (by unfold U64 at hd; omega)
    have ho1 : 0 ≤ o := by
      have : d / 2 ^ j = o := by rw [eo]; exact Int.mul_ediv_cancel_left _ (by omega)
      rw [← this]; exact Int.ediv_nonneg hd.1 (by omega)
    have x4 : o.tmod 2 = 1 := by rw [Int.tmod_eq_emod_of_nonneg ho1]; exact ho
    have n1 := Int.emod_nonneg c h0
    have n2 := Int.emod_lt_of_pos c h00
    have y1 : md c d = c % d := by unfold md; rw [if_neg h0]
    have y2 : md 0 d = 0 := by unfold md; rw [if_neg h0]; exact Int.zero_emod _
    have z0 : (d == 0) = false := by simpa using h0
    have z1 : (decide ((2 : Int) ^ j = 0)) = false := by simp; omega
    have z2 : ((2 : Int) ^ j == 0) = false := by simp; omega
    have z3 : decide (c % d ≥ d) = false := by simp; omega
    have w1 : IntKind.u64.wrap (d - 1) = d - 1 := wu_id (by omega) (by unfold U64 at hd; omega)
    have v34 : (bif decide (c ≥ 0) then c % d != (IntKind.u64.wrap c).tmod d else false) = false := by
      by_cases h : c ≥ 0
      · rw [wu_id (by omega) (by unfold I64 at hc; omega), Int.tmod_eq_emod_of_nonneg h]; simp
      · simp [h]
    simp only [ev, x1, low_and j hlt, x2, x3, x4, y1, y2, z0, z1, z2, z3, w1, v34, bne_self_eq_false, cond_false, cond_true, Bool.not_false, Bool.true_or, Bool.and_self, Bool.and_true, show (decide ((2 : Int) = 0)) = false from rfl, h0, decide_false]
    by_cases hm : c = 9223372036854775807
    · subst hm
      simp only [bne_self_eq_false, cond_false]
      rfl
    · have m1 : (c != 9223372036854775807) = true := by simpa using hm
      have hc1 : I64 (c + 1) := by unfold I64 at hc ⊢; omega
      have m2 : IntKind.i64.wrap (c + 1) = c + 1 := wi_id hc1.1 (by unfold I64 at hc1; omega)
      have m3 : word_Mod (c + 1) d = (c + 1) % d := by rw [mod_s hc1 hd]; unfold md; rw [if_neg h0]
      rw [m1, m2, m3, mod_next h00]
      by_cases hq : c % d = d - 1
      · rw [if_pos hq, hq]
        have : decide (d - 1 < d - 1) = false := by simp
        simp only [beq_self_eq_true, bne_self_eq_false, cond_true, cond_false, this]
        rfl
      · rw [if_neg hq]
        have b1 : (c % d == d - 1) = false := by simpa using hq
        have b2 : IntKind.u64.wrap (c % d + 1) = c % d + 1 := wu_id (by omega) (by unfold U64 at hd; omega)
        rw [b1, b2]
        simp only [bne_self_eq_false, cond_true, cond_false, Bool.cond_self]
        rfl
theorem wordDivides.walk (a b c d : Int) (W : World) (w0 : (Lit.int .u64 a).wf = true) (w1 : (Lit.int .u64 b).wf = true) (w2 : (Lit.int .i64 c).wf = true) (w3 : (Lit.int .u64 d).wf = true) (hG : GOK G W) :
    Calls P 4 #[.int .u64 a, .int .u64 b, .int .i64 c, .int .u64 d] W fun e w' => e = .returned (.bool true) ∧ Below W.heap.size W w' :=
  runF_calls' C.mixed C.names law_sum.t (fun c _ => LoopsOK_nil c) Tryd.func4 (vs := [.int .u64 a, .int .u64 b, .int .i64 c, .int .u64 d]) hG (gok_lt C hG) ((law_WordDivides.r a b c d).trans (divides_ok (u64_wf w0) (u64_wf w1) (i64_wf w2) (u64_wf w3)))
end Go.Proofs.YtfcgmfefdgcmjaaDoor.V
