/- Comparisons of chapter 14: nothing comes in, and numbers of which they hold stay. Conditions: none. -/
import Derived.Test.YtonpbbhlmapbdaaGreatDoorK11
set_option linter.unusedVariables false
set_option linter.unusedSimpArgs false
namespace Go.Proofs.YtonpbbhlmapbdaaGreatDoor.V
open Go Go.Wk Go.RowKit

def holdsP (op x y : Int) : Prop := if op = 8 then x < y else if op = 9 then x ≤ y else if op = 10 then x > y else if op = 11 then x ≥ y else if op = 12 then x = y else op = 13 ∧ x ≠ y
instance (op x y : Int) : Decidable (holdsP op x y) := by unfold holdsP; infer_instance
theorem holds_s (op x y : Int) : law_holds op x y = decide (holdsP op x y) := by
  unfold law_holds law_holds.c holdsP
  (try unfold law_holds.c0)
  by_cases h1 : op = 8
  · subst h1; rfl
  by_cases h2 : op = 9
  · subst h2; rfl
  by_cases h3 : op = 10
  · subst h3; rfl
  by_cases h4 : op = 11
  · subst h4; rfl
  by_cases h5 : op = 12
  · subst h5
    simp only [show ((12 : Int) == 8) = false from rfl, show ((12 : Int) == 9) = false from rfl, show ((12 : Int) == 10) = false from rfl, show ((12 : Int) == 11) = false from rfl, show ((12 : Int) == 12) = true from rfl, cond_true, cond_false, id, show ¬ (12 : Int) = 8 by decide, show ¬ (12 : Int) = 9 by decide, show ¬ (12 : Int) = 10 by decide, show ¬ (12 : Int) = 11 by decide, if_false, if_true]
    rfl
  by_cases h6 : op = 13
  · subst h6
    have e : (x == y) = decide (x = y) := by rw [Bool.eq_iff_iff]; simp
    simp [bne, e]
  simp [Bool.cond_eq_ite, h1, h2, h3, h4, h5, h6]
theorem neg_holds {op x y : Int} (o : isCmp op) (h : ¬ holdsP op x y) : holdsP (negO op) x y := by
  rcases o with rfl | rfl | rfl | rfl | rfl | rfl <;> simp [holdsP, negO] at h ⊢ <;> omega
theorem neg_cmp {op : Int} (o : isCmp op) : isCmp (negO op) := by
  rcases o with rfl | rfl | rfl | rfl | rfl | rfl <;> decide
theorem less1_nf {a : Nm} (n : NF a) {v : Int} (hv : I64 v) : NF (less1 a v) := by
  unfold less1
  split
  · split
    · exact .bot
    · exact meet_nf n.raw (from_nf (B.wi_I _)).raw
  · exact n
theorem less2_nf {a : Nm} (n : NF a) {v : Int} (hv : I64 v) : NF (less2 a v) := by
  unfold less2
  split
  · split
    · exact .bot
    · exact meet_nf n.raw (to_nf (B.wi_I _)).raw
  · exact n
theorem lessS_nf {a : Nm} (n : NF a) {v : Int} (hv : I64 v) : NF (lessS a v) := less2_nf (less1_nf n hv) hv
theorem less1_sub {a : Nm} (n : NF a) (v : Int) : Sub (less1 a v) a := by
  unfold less1
  split
  · split
    · exact bot_sub _ rfl
    · exact fun w hw i => ((meet_in n.raw (from_nf (B.wi_I _)).raw hw).1 i).1
  · exact Sub.rfl' a
theorem less2_sub {a : Nm} (n : NF a) (v : Int) : Sub (less2 a v) a := by
  unfold less2
  split
  · split
    · exact bot_sub _ rfl
    · exact fun w hw i => ((meet_in n.raw (to_nf (B.wi_I _)).raw hw).1 i).1
  · exact Sub.rfl' a
theorem lessS_sub {a : Nm} (n : NF a) {v : Int} (hv : I64 v) : Sub (lessS a v) a := (less2_sub (less1_nf n hv) v).trans (less1_sub n v)
theorem less1_keep {a : Nm} (n : NF a) {v w : Int} (hv : I64 v) (hw : I64 w) (i : In a w) (h : w ≠ v) : In (less1 a v) w := by
  unfold less1
  split
  · rename_i e
    have b := i.2.1
    unfold I64 at hv hw
    rw [if_neg (by omega)]
    refine (meet_in n.raw (from_nf (B.wi_I _)).raw hw).2 ⟨i, (from_in (B.wi_I _) hw).2 ?_⟩
    rw [wi_id (by omega) (by omega)]; omega
  · exact i
theorem less2_keep {a : Nm} (n : NF a) {v w : Int} (hv : I64 v) (hw : I64 w) (i : In a w) (h : w ≠ v) : In (less2 a v) w := by
  unfold less2
  split
  · rename_i e
    have b := i.2.1
    unfold I64 at hv hw
    rw [if_neg (by omega)]
    refine (meet_in n.raw (to_nf (B.wi_I _)).raw hw).2 ⟨i, (to_in (B.wi_I _) hw).2 ?_⟩
    rw [wi_id (by omega) (by omega)]; omega
  · exact i
theorem wo_nf {a b : Nm} (n : NF a) (n' : NF b) : NF (wo a b) := by
  unfold wo; split
  · exact lessS_nf n n'.raw.l
  · exact n
theorem wo_sub {a b : Nm} (n : NF a) (n' : NF b) : Sub (wo a b) a := by
  unfold wo; split
  · exact lessS_sub n n'.raw.l
  · exact Sub.rfl' a
theorem wo_keep {a b : Nm} (n : NF a) (n' : NF b) {v w : Int} (hv : I64 v) (hw : I64 w) (i : In a v) (j : In b w) (h : v ≠ w) : In (wo a b) v := by
  unfold wo; split
  · rename_i e
    have q := j.2.1
    have : w = b.2.1 := by omega
    subst this
    exact less2_keep (less1_nf n hw) hw hv (less1_keep n hw hv i h) h
  · exact i
theorem cmpN_spec {op : Int} (o : isCmp op) {a b : Nm} (n : NF a) (n' : NF b) : (NF (cmpN op a b).1 ∧ NF (cmpN op a b).2) ∧ (Sub (cmpN op a b).1 a ∧ Sub (cmpN op a b).2 b) ∧
    ∀ v w, I64 v → I64 w → In a v → In b w → holdsP op v w → In (cmpN op a b).1 v ∧ In (cmpN op a b).2 w := by
  have lt : ∀ {a b : Nm}, NF a → NF b → (NF (ltS a b).1 ∧ NF (ltS a b).2) ∧ (Sub (ltS a b).1 a ∧ Sub (ltS a b).2 b) ∧ ∀ v w, I64 v → I64 w → In a v → In b w → v < w → In (ltS a b).1 v ∧ In (ltS a b).2 w := by
    intro a b n n'
    unfold ltS
    by_cases h : b.2.2.1 = -9223372036854775808 ∨ a.2.1 = 9223372036854775807
    · rw [if_pos h]
      refine ⟨⟨.bot, .bot⟩, ⟨bot_sub _ rfl, bot_sub _ rfl⟩, fun v w hv hw i j hl => ?_⟩
      have p := i.2.1
      have q := j.2.1
      unfold I64 at hv hw
      omega
    · rw [if_neg h]
      refine ⟨⟨meet_nf n.raw (to_nf (B.wi_I _)).raw, meet_nf n'.raw (from_nf (B.wi_I _)).raw⟩, ⟨fun u hu i => ((meet_in n.raw (to_nf (B.wi_I _)).raw hu).1 i).1, fun u hu i => ((meet_in n'.raw (from_nf (B.wi_I _)).raw hu).1 i).1⟩, fun v w hv hw i j hl => ?_⟩
      have p := i.2.1
      have q := j.2.1
      have r1 := n.raw.l
      have r2 := n'.raw.h
      refine ⟨(meet_in n.raw (to_nf (B.wi_I _)).raw hv).2 ⟨i, (to_in (B.wi_I _) hv).2 ?_⟩, (meet_in n'.raw (from_nf (B.wi_I _)).raw hw).2 ⟨j, (from_in (B.wi_I _) hw).2 ?_⟩⟩
      · unfold I64 at r1 r2 hv hw; rw [wi_id (by omega) (by omega)]; omega
      · unfold I64 at r1 r2 hv hw; rw [wi_id (by omega) (by omega)]; omega
  have le : ∀ {a b : Nm}, NF a → NF b → (NF (leP a b).1 ∧ NF (leP a b).2) ∧ (Sub (leP a b).1 a ∧ Sub (leP a b).2 b) ∧ ∀ v w, I64 v → I64 w → In a v → In b w → v ≤ w → In (leP a b).1 v ∧ In (leP a b).2 w := by
    intro a b n n'
    unfold leP
    refine ⟨⟨meet_nf n.raw (to_nf n'.raw.h).raw, meet_nf n'.raw (from_nf n.raw.l).raw⟩, ⟨fun u hu i => ((meet_in n.raw (to_nf n'.raw.h).raw hu).1 i).1, fun u hu i => ((meet_in n'.raw (from_nf n.raw.l).raw hu).1 i).1⟩, fun v w hv hw i j hl => ?_⟩
    have p := i.2.1
    have q := j.2.1
    exact ⟨(meet_in n.raw (to_nf n'.raw.h).raw hv).2 ⟨i, (to_in n'.raw.h hv).2 (by omega)⟩, (meet_in n'.raw (from_nf n.raw.l).raw hw).2 ⟨j, (from_in n.raw.l hw).2 (by omega)⟩⟩
  rcases o with rfl | rfl | rfl | rfl | rfl | rfl
  · have h := lt n n'
    exact ⟨h.1, h.2.1, fun v w hv hw i j hh => h.2.2 v w hv hw i j hh⟩
  · have h := le n n'
    exact ⟨h.1, h.2.1, fun v w hv hw i j hh => h.2.2 v w hv hw i j hh⟩
  · have h := lt n' n
    exact ⟨⟨h.1.2, h.1.1⟩, ⟨h.2.1.2, h.2.1.1⟩, fun v w hv hw i j hh => (h.2.2 w v hw hv j i hh).symm⟩
  · have h := le n' n
    exact ⟨⟨h.1.2, h.1.1⟩, ⟨h.2.1.2, h.2.1.1⟩, fun v w hv hw i j hh => (h.2.2 w v hw hv j i hh).symm⟩
  · have m := meet_nf n.raw n'.raw
    refine ⟨⟨m, m⟩, ⟨fun u hu i => ((meet_in n.raw n'.raw hu).1 i).1, fun u hu i => ((meet_in n.raw n'.raw hu).1 i).2⟩, fun v w hv hw i j hh => ?_⟩
    have e : v = w := hh
    subst e
    exact ⟨(meet_in n.raw n'.raw hv).2 ⟨i, j⟩, (meet_in n.raw n'.raw hv).2 ⟨i, j⟩⟩
  · refine ⟨⟨wo_nf n n', wo_nf n' n⟩, ⟨wo_sub n n', wo_sub n' n⟩, fun v w hv hw i j hh => ?_⟩
    have e : v ≠ w := hh.2
    exact ⟨wo_keep n n' hv hw i j e, wo_keep n' n hw hv j i (Ne.symm e)⟩
theorem both_nf {p : Nm × Nm} (h : NF p.1 ∧ NF p.2) : NF (bothS p).1 ∧ NF (bothS p).2 := by
  unfold bothS; split
  · exact ⟨.bot, .bot⟩
  · exact h
theorem both_sub {p : Nm × Nm} {a b : Nm} (h : Sub p.1 a ∧ Sub p.2 b) : Sub (bothS p).1 a ∧ Sub (bothS p).2 b := by
  unfold bothS; split
  · exact ⟨bot_sub _ rfl, bot_sub _ rfl⟩
  · exact h
theorem both_keep {p : Nm × Nm} {v w : Int} (h : In p.1 v ∧ In p.2 w) : In (bothS p).1 v ∧ In (bothS p).2 w := by
  unfold bothS
  rw [if_neg (by rw [h.1.1, h.2.1]; simp)]
  exact h
theorem cmp_spec {op : Int} (o : isCmp op) {a b : Nm} (ha : Raw a) (hb : Raw b) : (NF (cmpS op a b).1 ∧ NF (cmpS op a b).2) ∧ (Sub (cmpS op a b).1 a ∧ Sub (cmpS op a b).2 b) ∧
    ∀ v w, I64 v → I64 w → In a v → In b w → holdsP op v w → In (cmpS op a b).1 v ∧ In (cmpS op a b).2 w := by
  have h := cmpN_spec o (norm_nf ha) (norm_nf hb)
  unfold cmpS
  by_cases hc : (normS a).1 = true ∨ (normS b).1 = true
  · rw [if_pos hc]
    refine ⟨⟨.bot, .bot⟩, ⟨bot_sub _ rfl, bot_sub _ rfl⟩, fun v w hv hw i j _ => ?_⟩
    have p := ((norm_in ha hv).2 i).1
    have q := ((norm_in hb hw).2 j).1
    rw [p, q] at hc
    simp at hc
  · rw [if_neg hc]
    refine ⟨both_nf h.1, both_sub ⟨h.2.1.1.trans (norm_sub ha).1, h.2.1.2.trans (norm_sub hb).1⟩, fun v w hv hw i j hh => both_keep (h.2.2 v w hv hw ((norm_in ha hv).2 i) ((norm_in hb hw).2 j) hh)⟩
end Go.Proofs.YtonpbbhlmapbdaaGreatDoor.V
