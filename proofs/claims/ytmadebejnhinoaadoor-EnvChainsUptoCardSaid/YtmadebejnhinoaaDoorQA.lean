/- Chapter 15: the laws on orders, in plain words; Chapter 15: the law on members, in plain words. Conditions: none. -/
import Derived.Test.YtmadebejnhinoaaDoorD5

set_option linter.unusedVariables false
set_option linter.unusedSimpArgs false
namespace Go.Proofs.YtmadebejnhinoaaDoor.V
open Go Go.Wk Go.RowKit
noncomputable section
/-- how long a store's lists are -/
def LnE (n : Nat) (E : EnvP) : Prop := E.vs.length ≤ n ∧ E.ars.length ≤ n
theorem ln_dead {n : Nat} : LnE n deadE := by simp [LnE, deadE]
theorem ln_lively {n : Nat} {E : EnvP} (h : LnE n E) : LnE n (livelyE E) := by
  unfold livelyE; split
  · exact ln_dead
  · exact h
theorem ln_norm {n : Nat} {E : EnvP} (h : LnE n E) : LnE n (normE E) := by
  unfold normE; split
  · exact ln_dead
  · exact ln_lively ⟨by simpa using h.1, by simpa using h.2⟩
theorem ln_both {n : Nat} {op : Nm → Nm → Nm} {E F : EnvP} (h : LnE n E) : LnE n (bothE op E F) :=
  ln_lively ⟨by have := h.1; simp; omega, by have := h.2; simp; omega⟩
theorem ln_wider {n : Nat} {op : Nm → Nm → Nm} {E F : EnvP} (h : LnE n E) (h' : LnE n F) : LnE n (widerE op E F) := by
  unfold widerE widerN; repeat' split
  · exact ln_norm h'
  · exact ln_norm h
  · exact ln_dead
  · exact ln_both (ln_norm h)
theorem ln_meet {n : Nat} {E F : EnvP} (h : LnE n E) (h' : LnE n F) : LnE n (meetE E F) := by
  unfold meetE meetM; repeat' split
  · exact ln_dead
  · exact ln_both (ln_norm h)
def bigN : Nat := 3518437208780
theorem envP_mk {E : EnvP} (h : RawE E) (hl : LnE bigN E) : envP E := ⟨⟨h.v, by have := hl.1; unfold bigN at this; unfold big40; omega⟩, ⟨h.a, by have := hl.2; unfold bigN at this; unfold big40; omega⟩⟩
theorem envP.raw {E : EnvP} (h : envP E) : RawE E := ⟨h.1.1, h.2.1⟩
theorem envP.ln {E : EnvP} (h : envP E) : LnE bigN E := ⟨by have := h.1.2; unfold big40 at this; unfold bigN; omega, by have := h.2.2; unfold big40 at this; unfold bigN; omega⟩
theorem ok_mk {E : EnvP} (h : envP E) : envOK (E.dead, E.vs, E.ars) = true := envOK_iff.2 h
theorem ok_arg {e : Bool × List Nm × List Nm} (h : envP (toE e)) : envOK (e.fst, e.snd.fst, e.snd.snd) = true := envOK_iff.2 h
theorem toE_mk (E : EnvP) : toE (E.dead, E.vs, E.ars) = E := rfl
theorem toE_eta (e : Bool × List Nm × List Nm) : toE (e.fst, e.snd.fst, e.snd.snd) = toE e := rfl
section
variable {e f g : EnvP} (he : envP e) (hf : envP f) (hg : envP g)
include he
theorem envP.norm : envP (normE e) := envP_mk (norm_ne he.raw).raw (ln_norm he.ln)
include hf
theorem envP.meet : envP (meetE e f) := envP_mk (meetE_ne he.raw hf.raw).raw (ln_meet he.ln hf.ln)
theorem envP.join : envP (joinE e f) := envP_mk (joinE_ne he.raw hf.raw).raw (ln_wider he.ln hf.ln)
theorem envP.wid (zs : List Int) : envP (widE zs e f) := envP_mk (widE_ne he.raw hf.raw zs).raw (ln_wider he.ln hf.ln)
end
theorem shaped_eq (E F : EnvP) : (E.dead || (F.dead || !unlikeE E F)) = shapedB E F := by
  unfold shapedB unlikeE; simp
set_option maxRecDepth 100000 in
theorem law_EnvOrders.is (ea eb ec : cE.T) (z : List Int) (ha : envP (toE ea)) (hb : envP (toE eb)) (hc : envP (toE ec)) (hz : intsOK z) : law_EnvOrders.c false (fun _ => true) ea eb ec z = true ∧ law_EnvOrders ea eb ec z = true := by
  have a1 := ok_arg ha
  have a2 := ok_arg hb
  have a3 := ok_arg hc
  have a4 := thrOK_iff.2 hz
  unfold law_EnvOrders law_EnvOrders.c
  simp only [toE_eta, toE_mk, shaped_eq, ok_mk (ha.meet hb), ok_mk (hb.meet ha), ok_mk (ha.join hb), ok_mk (hb.join ha), ok_mk (ha.wid hb z), ok_mk ha.norm, ok_mk hb.norm, a1, a2, a3, a4]
  generalize toE ea = e at *
  generalize toE eb = f at *
  generalize toE ec = g at *
  have l1 : leqE e e = true := leq_refl ha.raw
  have l2 := leq_same ha.raw hb.raw
  have l3 : (leqE e f && leqE f g) = true → leqE e g = true := fun h => by
    rw [Bool.and_eq_true] at h; exact leq_tran ha.raw hb.raw hc.raw h.1 h.2
  obtain ⟨l4, l5⟩ := leq_meetE ha.raw hb.raw
  have l6 := same_meet ha.raw hb.raw
  have l7 := same_join ha.raw hb.raw
  unfold law_EnvOrders.c0
  simp only [shaped_eq, l1, l4, l5, l6, l7]
  have k1 : (bif leqE e f then leqE f e else false) = sameE e f := by rw [← l2]; cases leqE e f <;> rfl
  simp only [k1]
  have k2 : (bif bif leqE e f then leqE f g else false then !leqE e g else false) = false := by
    cases h1 : leqE e f <;> cases h2 : leqE f g <;> simp
    exact l3 (by rw [h1, h2]; rfl)
  simp only [k2]
  cases hs : shapedB (normE e) (normE f) with
  | false => simp
  | true =>
    obtain ⟨m1, m2⟩ := leq_joinE ha.raw hb.raw hs
    have m3 := leq_join_wid ha.raw hb.raw z hs
    have m4 := join_abs ha.raw hb.raw hs
    have m5 := leq_glb ha.raw hb.raw hc.raw
    simp only [m1, m2, m3]
    cases h1 : leqE e f <;> cases h2 : leqE g e <;> cases h3 : leqE g f <;> simp_all
end
end Go.Proofs.YtmadebejnhinoaaDoor.V


set_option linter.unusedVariables false
set_option linter.unusedSimpArgs false
namespace Go.Proofs.YtmadebejnhinoaaDoor.V
open Go Go.Wk Go.RowKit
noncomputable section
theorem stP.int {s : List Int × List (List Int)} (h : stP s) : StoreI s.1 s.2 := ⟨h.1.1, fun l hl => (h.2.1 l hl).1⟩
set_option maxRecDepth 100000 in
theorem mem_end {N m : Nat} {ea eb : cE.T} {s : cSt.T} {z : List Int} (ha : envP (toE ea)) (hb : envP (toE eb)) (hs : stP s) (hz : intsOK z) (hne : ∀ l ∈ s.2, l ≠ []) :
    law_EnvMembers.L0 N (m + 1) (z, (s.2.length : Int), ea.1, ea.2.1, ea.2.2, eb.1, eb.2.1, eb.2.2, s.1, s.2) = some true := by
  have a1 := ok_arg ha
  have a2 := ok_arg hb
  have a3 : stOK (s.1, s.2) = true := stOK_iff.2 hs
  have a4 := thrOK_iff.2 hz
  simp only [law_EnvMembers.L0]
  unfold law_EnvMembers.l0.c
  simp only [toE_eta, toE_mk, ok_mk (ha.meet hb), ok_mk (ha.join hb), ok_mk (ha.wid hb z), ok_mk ha.norm, ok_mk hb.norm, a1, a2, a3, a4]
  generalize toE ea = e at *
  generalize toE eb = f at *
  have hI := hs.int
  have l1 := has_norm ha.raw (vs := s.1) (ars := s.2)
  have l2 := has_leq ha.raw hb.raw hI
  have l3 := has_meetE ha.raw hb.raw hI hne
  unfold law_EnvMembers.l0.c0
  have hlt : decide ((s.2.length : Int) < (s.2.length : Int)) = false := by simp
  simp only [hlt, l1, l3, shaped_eq]
  have k1 : (bif bif leqE e f then hasE e s.1 s.2 else false then !hasE f s.1 s.2 else false) = false := by
    cases h1 : leqE e f with
    | false => rfl
    | true => cases h2 : hasE e s.1 s.2 with
      | false => rfl
      | true => simp [l2 h1 h2]
  simp only [k1]
  cases hsh : shapedB (normE e) (normE f) with
  | false =>
    obtain ⟨m1, m2, m3⟩ := unshaped z hsh
    simp [m1, m2, m3]
  | true =>
    have l4 := has_up ha.raw hb.raw hI z hsh
    cases h1 : hasE e s.1 s.2 <;> cases h2 : hasE f s.1 s.2 <;> simp_all
theorem mem_loop {N : Nat} {ea eb : cE.T} {s : cSt.T} {z : List Int} (ha : envP (toE ea)) (hb : envP (toE eb)) (hs : stP s) (hz : intsOK z) : ∀ (d m i : Nat), i + d = s.2.length → d < m → (∀ j, (h : j < s.2.length) → j < i → s.2[j] ≠ []) →
    law_EnvMembers.L0 N m (z, (i : Int), ea.1, ea.2.1, ea.2.2, eb.1, eb.2.1, eb.2.2, s.1, s.2) = some true
  | 0, m, i, hi, hm, hj => by
    obtain ⟨m, rfl⟩ : ∃ k, m = k + 1 := ⟨m - 1, by omega⟩
    obtain rfl : i = s.2.length := by omega
    refine mem_end ha hb hs hz fun l hl => ?_
    obtain ⟨j, hj', rfl⟩ := List.mem_iff_getElem.1 hl
    exact hj j hj' hj'
  | d + 1, m, i, hi, hm, hj => by
    obtain ⟨m, rfl⟩ : ∃ k, m = k + 1 := ⟨m - 1, by omega⟩
    have hlt : i < s.2.length := by omega
    have hbig := hs.2.2
    have e1 : decide ((i : Int) < (s.2.length : Int)) = true := by simp; exact_mod_cast hlt
    have e2 : decide ((0 : Int) ≤ (i : Int)) = true := by simp
    have e3 : s.2.getD (i : Int).toNat (Cd.dflt (Cd.list cI64)) = s.2[i] := by simp [List.getD_eq_getElem?_getD, List.getElem?_eq_getElem hlt]
    have e4 : IntKind.i64.wrap ((i : Int) + 1) = ((i + 1 : Nat) : Int) := by
      unfold big40 at hbig
      rw [wi_id (by omega) (by omega)]; omega
    have ih := mem_loop (N := N) ha hb hs hz d m (i + 1) (by omega) (by omega)
    simp only [law_EnvMembers.L0]
    unfold law_EnvMembers.l0.c law_EnvMembers.l0.c0
    simp only [e1, e2, e3, e4, Bool.and_self, cond_true]
    by_cases h0 : s.2[i] = []
    · simp [h0]
    · have h1 : (((List.length s.2[i] : Nat) : Int) == 0) = false := by
        have : s.2[i].length ≠ 0 := by simpa using h0
        simpa using this
      simp only [h1, cond_false]
      exact ih (fun j h hj' => by
        by_cases e : j = i
        · subst e; exact h0
        · exact hj j h (by omega))
theorem law_EnvMembers.is {N : Nat} (ea eb : cE.T) (s : cSt.T) (z : List Int) (ha : envP (toE ea)) (hb : envP (toE eb)) (hs : stP s) (hz : intsOK z) (hN : s.2.length < N) : law_EnvMembers.o N ea eb s z = some true := by
  unfold law_EnvMembers.o law_EnvMembers.c
  exact mem_loop ha hb hs hz s.2.length N 0 (by omega) hN (fun j h hj => by omega)
end
end Go.Proofs.YtmadebejnhinoaaDoor.V

