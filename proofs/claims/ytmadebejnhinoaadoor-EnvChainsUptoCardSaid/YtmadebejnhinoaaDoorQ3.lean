/- Chapter 15: the law on rows of widenings, in plain words: so long as lists are short. Conditions: none. -/
import Derived.Test.YtmadebejnhinoaaDoorQA
import Derived.Test.YtmadebejnhinoaaDoorUB
set_option linter.unusedVariables false
set_option linter.unusedSimpArgs false
namespace Go.Proofs.YtmadebejnhinoaaDoor.V
open Go Go.Wk Go.RowKit
noncomputable section
theorem ch_bd {n zl : Int} (h0 : 0 ≤ n) (h1 : n ≤ 2097152) (z0 : 0 ≤ zl) (z1 : zl ≤ 1048576) : 0 ≤ n * (2 * (zl + 3) + 1) ∧ n * (2 * (zl + 3) + 1) ≤ 2097152 * 2097159 := by
  constructor
  · exact Int.mul_nonneg h0 (by omega)
  · exact Int.mul_le_mul h1 (by omega) (by omega) (by omega)
theorem ch_end {N m : Nat} {l : List cE.T} {z : List Int} (hzl : z.length ≤ bulkN) {n c : Int} {E : EnvP} (hC : Chain z E n c) (hn : n ≤ 2097152) :
    law_EnvChains.L0 N (m + 1) (l, z, n, c, (l.length : Int), E.dead, E.vs, E.ars) = some true := by
  have h0 : 0 ≤ n := by have := hC.n0; omega
  unfold bulkN at hzl
  obtain ⟨b1, b2⟩ := ch_bd h0 hn (zl := (z.length : Int)) (by omega) (by omega)
  have hf := hC.fin
  have hlt : decide ((l.length : Int) < (l.length : Int)) = false := by simp
  have h35 : IntKind.i64.wrap ((z.length : Int) + 3) = (z.length : Int) + 3 := wi_id (by omega) (by omega)
  have h36 : IntKind.i64.wrap (2 * ((z.length : Int) + 3)) = 2 * ((z.length : Int) + 3) := wi_id (by omega) (by omega)
  have h37 : IntKind.i64.wrap (2 * ((z.length : Int) + 3) + 1) = 2 * ((z.length : Int) + 3) + 1 := wi_id (by omega) (by omega)
  have h38 : IntKind.i64.wrap (n * (2 * ((z.length : Int) + 3) + 1)) = n * (2 * ((z.length : Int) + 3) + 1) := wi_id (by omega) (by omega)
  have h39 : IntKind.i64.wrap (n * (2 * ((z.length : Int) + 3) + 1) + 1) = n * (2 * ((z.length : Int) + 3) + 1) + 1 := wi_id (by omega) (by omega)
  simp only [law_EnvChains.L0]
  unfold law_EnvChains.l0.c law_EnvChains.l0.c0
  simp only [hlt, h35, h36, h37, h38, h39]
  have : decide (c ≤ n * (2 * ((z.length : Int) + 3) + 1) + 1) = true := by simpa using hf
  rw [this]; rfl
theorem ch_loop {N : Nat} {l : List cE.T} {z : List Int} (hl : ∀ x ∈ l, envP (toE x) ∧ LnE bulkN (toE x)) (hlen : l.length ≤ bulkN) (hz : intsOK z) (hzl : z.length ≤ bulkN) :
    ∀ (d m i : Nat) (n c : Int) (E : EnvP), i + d = l.length → d < m → Chain z E n c → envP E → LnE bulkN E → n ≤ 2097152 → c ≤ i →
    law_EnvChains.L0 N m (l, z, n, c, (i : Int), E.dead, E.vs, E.ars) = some true
  | 0, m, i, n, c, E, hi, hm, hC, hE, hL, hn, hc => by
    obtain ⟨m, rfl⟩ : ∃ k, m = k + 1 := ⟨m - 1, by omega⟩
    obtain rfl : i = l.length := by omega
    exact ch_end hzl hC hn
  | d + 1, m, i, n, c, E, hi, hm, hC, hE, hL, hn, hc => by
    obtain ⟨m, rfl⟩ : ∃ k, m = k + 1 := ⟨m - 1, by omega⟩
    have hlt : i < l.length := by omega
    have hb : l.length ≤ 1048576 := hlen
    have c0 := hC.c0
    have ih := ch_loop (N := N) hl hlen hz hzl d m (i + 1)
    have e1 : decide ((i : Int) < (l.length : Int)) = true := by simp; exact_mod_cast hlt
    have e2 : decide ((0 : Int) ≤ (i : Int)) = true := by simp
    have e3 : l.getD (i : Int).toNat cE.dflt = l[i] := by simp [List.getD_eq_getElem?_getD, List.getElem?_eq_getElem hlt]
    have e4 : IntKind.i64.wrap ((i : Int) + 1) = ((i + 1 : Nat) : Int) := by rw [wi_id (by omega) (by omega)]; omega
    have e5 : IntKind.i64.wrap (c + 1) = c + 1 := wi_id (by omega) (by omega)
    obtain ⟨hx, hxl⟩ := hl l[i] (List.getElem_mem hlt)
    have hF := hx.norm
    have hFn := norm_ne hx.raw
    have hFl : LnE bulkN (normE (toE l[i])) := ln_norm hxl
    have hJ := hE.join hF
    have hW := hE.wid hJ z
    have a4 := thrOK_iff.2 hz
    simp only [law_EnvChains.L0]
    unfold law_EnvChains.l0.c
    simp only [e3, toE_eta, toE_mk, shaped_eq, ok_mk hE, ok_arg hx, ok_mk hF, ok_mk hJ, ok_mk hW, a4, e4, e5]
    have hWl : LnE bulkN (widE z E (joinE E (normE (toE l[i])))) := ln_wider hL (ln_wider hL hFl)
    generalize normE (toE l[i]) = F at *
    unfold law_EnvChains.l0.c0
    simp only [e1, e2]
    have hs : (E.dead = true ∨ shapedB E F = true) ∨ (E.dead = false ∧ shapedB E F = false) := by
      cases E.dead <;> cases shapedB E F <;> simp
    rcases hs with hs | ⟨hs1, hs2⟩
    · obtain ⟨s1, s2⟩ := hC.step hFn hs
      have et : (bif !E.dead then !shapedB E F else false) = false := by rcases hs with h | h <;> simp [h]
      have hsz : IntKind.i64.wrap (((widE z E (joinE E F)).vs.length : Int) + ((widE z E (joinE E F)).ars.length : Int)) = (sizeE (widE z E (joinE E F)) : Int) := by
        have h1 := hWl.1; have h2 := hWl.2
        unfold bulkN at h1 h2
        rw [wi_id (by omega) (by omega)]; unfold sizeE; omega
      have hsz2 : (sizeE (widE z E (joinE E F)) : Int) ≤ 2097152 := by
        have h1 := hWl.1; have h2 := hWl.2
        unfold bulkN at h1 h2
        unfold sizeE; omega
      simp only [et, s1, hsz]
      generalize widE z E (joinE E F) = W at *
      have en : (if (sizeE W : Int) > n then (sizeE W : Int) else n) = max n (sizeE W : Int) := by split <;> omega
      have ec : (bif !sameE E W then c + 1 else c) = (if sameE E W = true then c else c + 1) := by cases sameE E W <;> rfl
      rw [en, ec]
      have := ih _ _ W (by omega) (by omega) s2 hW hWl (by omega) (by split <;> omega)
      simpa using this
    · have et : (bif !E.dead then !shapedB E F else false) = true := by simp [hs1, hs2]
      simp only [et]
      have := ih n c E (by omega) (by omega) hC hE hL hn (by omega)
      simpa using this
theorem law_EnvChains.is {N : Nat} (ea : cE.T) (l : List cE.T) (z : List Int) (ha : envP (toE ea)) (hal : LnE bulkN (toE ea)) (hl : ∀ x ∈ l, envP (toE x) ∧ LnE bulkN (toE x)) (hlen : l.length ≤ bulkN) (hz : intsOK z) (hzl : z.length ≤ bulkN) (hN : l.length < N) : law_EnvChains.o N ea l z = some true := by
  unfold law_EnvChains.o law_EnvChains.c
  have hn : LnE bulkN (normE (toE ea)) := ln_norm hal
  have hsz : IntKind.i64.wrap (((normE (toE ea)).vs.length : Int) + ((normE (toE ea)).ars.length : Int)) = (sizeE (normE (toE ea)) : Int) := by
    have h1 := hn.1; have h2 := hn.2
    unfold bulkN at h1 h2
    rw [wi_id (by omega) (by omega)]; unfold sizeE; omega
  have hsz2 : (sizeE (normE (toE ea)) : Int) ≤ 2097152 := by
    have h1 := hn.1; have h2 := hn.2
    unfold bulkN at h1 h2
    unfold sizeE; omega
  simp only [toE_eta, ok_arg ha, hsz]
  unfold law_EnvChains.c0
  exact ch_loop hl hlen hz hzl l.length N 0 _ 0 _ (by omega) hN (Chain.start z (norm_ne ha.raw)) ha.norm hn hsz2 (by omega)
end
end Go.Proofs.YtmadebejnhinoaaDoor.V
