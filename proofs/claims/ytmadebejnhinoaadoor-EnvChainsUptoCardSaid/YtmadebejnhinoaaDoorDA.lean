/- Chapter 15: the contracts of the stores' functions, as entries of a table over data; Chapter 15: awake is true. Conditions: none. -/
import Derived.Test.YtmadebejnhinoaaDoorCC
import Derived.Test.YtmadebejnhinoaaDoorCB

set_option linter.unusedVariables false
set_option linter.unusedSimpArgs false
namespace Go.Proofs.YtmadebejnhinoaaDoor.V
open Go Go.Wk Go.RowKit
noncomputable section
abbrev cN : Cd := .pair .bool (.pair (.int .i64) (.pair (.int .i64) (.pair (.int .u64) (.int .u64))))
abbrev cE : Cd := .pair .bool (.pair (.list cN) (.list cN))
abbrev cI64 : Cd := .int .i64
abbrev cSt : Cd := .pair (.list cI64) (.list (.list cI64))
def toE (e : Bool × List Nm × List Nm) : EnvP := ⟨e.1, e.2.1, e.2.2⟩
def enN (x : Nm) : SV := .agg [.val (.bool x.1), .val (.int .i64 x.2.1), .val (.int .i64 x.2.2.1), .val (.int .u64 x.2.2.2.1), .val (.int .u64 x.2.2.2.2)]
def enE (E : EnvP) : SV := .agg [.val (.bool E.dead), .dl cN E.vs, .dl cN E.ars]
def big40 : Nat := 140737488351232
/-- a raw list of Nums that a memory holds -/
def listOK (l : List Nm) : Prop := (∀ x ∈ l, Raw x) ∧ l.length * 40 ≤ big40
def envP (E : EnvP) : Prop := listOK E.vs ∧ listOK E.ars
def envOK (e : Bool × List Nm × List Nm) : Bool := @decide (envP (toE e)) (Classical.propDecidable _)
theorem envOK_iff {e : Bool × List Nm × List Nm} : envOK e = true ↔ envP (toE e) := by simp [envOK]
def intsOK (l : List Int) : Prop := (∀ x ∈ l, I64 x) ∧ l.length ≤ big40
def thrOK (l : List Int) : Bool := @decide (intsOK l) (Classical.propDecidable _)
theorem thrOK_iff {l : List Int} : thrOK l = true ↔ intsOK l := by simp [thrOK]
def storeP (s : List Int × List (List Int)) : Prop := intsOK s.1 ∧ (∀ l ∈ s.2, intsOK l) ∧ s.2.length ≤ big40
def storeOK (s : List Int × List (List Int)) : Bool := @decide (storeP s) (Classical.propDecidable _)
theorem storeOK_iff {s : List Int × List (List Int)} : storeOK s = true ↔ storeP s := by simp [storeOK]

theorem rcN {f : Fz} {x : Nm} {ws : List Value} (h : rc f cN x ws) : ws = ncl x := by
  simp only [rc] at h
  obtain ⟨_, _, rfl, rfl, _, _, rfl, rfl, _, _, rfl, rfl, _, _, rfl, rfl, rfl⟩ := h
  rfl
theorem rcN_mk {f : Fz} (x : Nm) : rc f cN x (ncl x) := by
  simp only [rc]
  exact ⟨[_], _, rfl, rfl, [_], _, rfl, rfl, [_], _, rfl, rfl, [_], [_], rfl, rfl, rfl⟩
theorem row_at {ρ : Rf} {w : World} {xs : List Nm} {v : Value} (hF : FOK ρ w) (h : rc ρ.fz (.list cN) xs [v]) (ho : listOK xs) : SlA w v xs := by
  obtain ⟨a, cap, rfl, hc, hi⟩ := rc_at h
  refine ⟨a, ⟨cap, hc⟩, rfl, ho.2, ho.1, fun i hlt => ?_⟩
  obtain ⟨b, o, ws, e, h1, h2⟩ := hi i hlt
  have e2 := rcN h2
  have eg : xs.getD i (Cd.dflt cN) = xs[i] := by simp [List.getD_eq_getElem?_getD, List.getElem?_eq_getElem hlt]
  rw [eg] at e2
  subst e2
  have k : ∀ j u, (ncl xs[i])[j]? = some u → w.cell? ⟨b, o + i * 5 + j, none⟩ = some u := fun j u hj => hF _ _ _ (h1 j u hj)
  have k0 := k 0 _ rfl
  exact ⟨b, o, e, cell_lt k0, k0, k 1 _ rfl, k 2 _ rfl, k 3 _ rfl, k 4 _ rfl⟩
theorem env_at {ρ : Rf} {w : World} {e : Bool × List Nm × List Nm} {x : Value} (hF : FOK ρ w) (h : SV.rl ρ (.agg (cellsD cE e)) x) (ho : envP (toE e)) : EnvAt w x (toE e) := by
  simp only [SV.rl] at h
  obtain ⟨xs, rfl, h⟩ := h
  simp only [cellsD, List.cons_append, List.nil_append] at h
  match xs, h with
  | [x0, x1, x2], h =>
    simp only [SV.rls, SV.rl, and_true] at h
    obtain ⟨rfl, h1, h2⟩ := h
    exact ⟨x1, x2, rfl, row_at hF h1 ho.1, row_at hF h2 ho.2⟩
  | [], h => simp [SV.rls] at h
  | [_], h => simp [SV.rls] at h
  | [_, _], h => simp [SV.rls] at h
  | _ :: _ :: _ :: _ :: _, h => simp [SV.rls] at h
theorem row_res {ρ : Rf} {w w' : World} {xs : List Nm} {v : Value} (h : SlF w.heap.size w' v xs) : SV.rl (ρ.grow w w') (.dl cN xs) v := by
  obtain ⟨⟨a, ⟨c, hc⟩, rfl, hr⟩, hB⟩ := h
  simp only [SV.rl, rc]
  refine ⟨a, c, rfl, hc, fun i hi => ?_⟩
  obtain ⟨b, off, rfl, _, c0, c1, c2, c3, c4⟩ := hr.at_ i hi
  have hb := hB b rfl
  refine ⟨b, off, ncl xs[i], rfl, fun j u hj => ?_, by have := rcN_mk (f := (ρ.grow w w').fz) xs[i]; simpa only [rc] using this⟩
  simp only [Rf.grow, Nat.not_lt.2 hb, if_false]
  match j, hj with
  | 0, hj => simp only [ncl, List.getElem?_cons_zero, Option.some.injEq] at hj; subst hj; exact c0
  | 1, hj => simp only [ncl, List.getElem?_cons_succ, List.getElem?_cons_zero, Option.some.injEq] at hj; subst hj; exact c1
  | 2, hj => simp only [ncl, List.getElem?_cons_succ, List.getElem?_cons_zero, Option.some.injEq] at hj; subst hj; exact c2
  | 3, hj => simp only [ncl, List.getElem?_cons_succ, List.getElem?_cons_zero, Option.some.injEq] at hj; subst hj; exact c3
  | 4, hj => simp only [ncl, List.getElem?_cons_succ, List.getElem?_cons_zero, Option.some.injEq] at hj; subst hj; exact c4
  | j + 5, hj => simp [ncl] at hj
theorem env_res {ρ : Rf} {w w' : World} {E : EnvP} {v : Value} (h : EnvF w.heap.size w' v E) : SV.rl (ρ.grow w w') (enE E) v := by
  obtain ⟨sv, sa, rfl, h1, h2⟩ := h
  simp only [enE, SV.rl]
  exact ⟨[.bool E.dead, sv, sa], rfl, by simp only [SV.rls, and_true]; exact ⟨by simp [SV.rl], row_res h1, row_res h2⟩⟩
theorem thr_at {ρ : Rf} {w : World} {zs : List Int} {v : Value} (hF : FOK ρ w) (h : rc ρ.fz (.list cI64) zs [v]) (ho : intsOK zs) : ∃ (a : Option Addr) (c : Nat), v = .slice a zs.length c ∧ Thr w a zs ∧ ∀ x ∈ zs, I64 x := by
  obtain ⟨a, cap, rfl, hc, hi⟩ := rc_at h
  refine ⟨a, cap, rfl, ⟨ho.2, fun i hlt => ?_⟩, ho.1⟩
  obtain ⟨b, o, ws, e, h1, h2⟩ := hi i hlt
  have eg : zs.getD i (Cd.dflt cI64) = zs[i] := by simp [List.getD_eq_getElem?_getD, List.getElem?_eq_getElem hlt]
  simp only [rc] at h2
  rw [eg] at h2
  subst h2
  have k := hF _ _ _ (h1 0 _ rfl)
  simp only [Cd.size, Nat.mul_one, Nat.add_zero] at k
  exact ⟨b, o, e, cell_lt k, k⟩
def eU : List SV := []
abbrev sE1 : PD (cE.T × Unit) := dP (dA cE) dU
abbrev sE2 : PD (cE.T × cE.T × Unit) := dP (dA cE) (dP (dA cE) dU)
theorem rls1 {ρ : Rf} {e : cE.T} {xs : List Value} (h : SV.rls ρ (sE1.enc (e, ())) xs) : ∃ x, xs = [x] ∧ SV.rl ρ (.agg (cellsD cE e)) x := by
  match xs, h with
  | [x], h => simp only [sE1, dP, dA, dU, List.append_nil, SV.rls, and_true] at h; exact ⟨x, rfl, h⟩
  | [], h => simp [sE1, dP, dA, dU, SV.rls] at h
  | _ :: _ :: _, h => simp [sE1, dP, dA, dU, SV.rls] at h
theorem rls2 {ρ : Rf} {e f : cE.T} {xs : List Value} (h : SV.rls ρ (sE2.enc (e, f, ())) xs) : ∃ x y, xs = [x, y] ∧ SV.rl ρ (.agg (cellsD cE e)) x ∧ SV.rl ρ (.agg (cellsD cE f)) y := by
  match xs, h with
  | [x, y], h => simp only [sE2, dP, dA, dU, List.append_nil, List.cons_append, List.nil_append, SV.rls, and_true] at h; exact ⟨x, y, rfl, h⟩
  | [], h => simp [sE2, dP, dA, dU, SV.rls] at h
  | [_], h => simp [sE2, dP, dA, dU, SV.rls] at h
  | _ :: _ :: _ :: _, h => simp [sE2, dP, dA, dU, SV.rls] at h
theorem two_ok {e f : cE.T} (h : (envOK e && envOK f) = true) : envP (toE e) ∧ envP (toE f) := by
  simp only [Bool.and_eq_true, envOK_iff] at h; exact h
def X13 : FV := mkX sE1 (fun | (e, _) => envOK e) (fun | (e, _) => enE (normE (toE e)))
def L_e13 : TL := (13, X13) :: L_num_Meet
theorem e13.t : TabOK P G (tab L_e13) := TabOK_mkC C num_Meet.t Tryd.func13 (by kernel_rfl) (by
  rintro ⟨e, _⟩ ρ xs w hg hG hF hr
  obtain ⟨x, rfl, h1⟩ := rls1 hr
  refine (norm_walk hG (env_at hF h1 (envOK_iff.1 hg))).mono ?_
  rintro _ w' ⟨v, rfl, hb, hv⟩
  exact ⟨v, rfl, hb, env_res hv⟩)
def X7 : FV := mkX sE2 (fun | (e, f, _) => envOK e && envOK f) (fun | (e, f, _) => .val (.bool (leqE (toE e) (toE f))))
def L_e7 : TL := (7, X7) :: L_e13
theorem e7.t : TabOK P G (tab L_e7) := TabOK_mkC C e13.t Tryd.func7 (by kernel_rfl) (by
  rintro ⟨e, f, _⟩ ρ xs w hg hG hF hr
  obtain ⟨x, y, rfl, h1, h2⟩ := rls2 hr
  refine (leq_walk hG (env_at hF h1 (two_ok hg).1) (env_at hF h2 (two_ok hg).2)).mono ?_
  rintro _ w' ⟨rfl, hb⟩
  exact ⟨_, rfl, hb, by simp [SV.rl]⟩)
def X8 : FV := mkX sE2 (fun | (e, f, _) => envOK e && envOK f) (fun | (e, f, _) => .val (.bool (sameE (toE e) (toE f))))
def L_e8 : TL := (8, X8) :: L_e7
theorem e8.t : TabOK P G (tab L_e8) := TabOK_mkC C e7.t Tryd.func8 (by kernel_rfl) (by
  rintro ⟨e, f, _⟩ ρ xs w hg hG hF hr
  obtain ⟨x, y, rfl, h1, h2⟩ := rls2 hr
  refine (same_walk hG (env_at hF h1 (two_ok hg).1) (env_at hF h2 (two_ok hg).2)).mono ?_
  rintro _ w' ⟨rfl, hb⟩
  exact ⟨_, rfl, hb, by simp [SV.rl]⟩)
def X12 : FV := mkX sE2 (fun | (e, f, _) => envOK e && envOK f) (fun | (e, f, _) => .val (.bool ((toE e).dead || ((toE f).dead || !unlikeE (toE e) (toE f)))))
def L_e12 : TL := (12, X12) :: L_e8
theorem e12.t : TabOK P G (tab L_e12) := TabOK_mkC C e8.t Tryd.func12 (by kernel_rfl) (by
  rintro ⟨e, f, _⟩ ρ xs w hg hG hF hr
  obtain ⟨x, y, rfl, h1, h2⟩ := rls2 hr
  refine (shaped_walk (env_at hF h1 (two_ok hg).1) (env_at hF h2 (two_ok hg).2)).mono ?_
  rintro _ w' ⟨rfl, hb⟩
  exact ⟨_, rfl, hb, by simp [SV.rl]⟩)
def X9 : FV := mkX sE2 (fun | (e, f, _) => envOK e && envOK f) (fun | (e, f, _) => enE (meetE (toE e) (toE f)))
def L_e9 : TL := (9, X9) :: L_e12
theorem e9.t : TabOK P G (tab L_e9) := TabOK_mkC C e12.t Tryd.func9 (by kernel_rfl) (by
  rintro ⟨e, f, _⟩ ρ xs w hg hG hF hr
  obtain ⟨x, y, rfl, h1, h2⟩ := rls2 hr
  refine (e_meet hG (env_at hF h1 (two_ok hg).1) (env_at hF h2 (two_ok hg).2)).mono ?_
  rintro _ w' ⟨v, rfl, hb, hv⟩
  exact ⟨v, rfl, hb, env_res hv⟩)
def X10 : FV := mkX sE2 (fun | (e, f, _) => envOK e && envOK f) (fun | (e, f, _) => enE (joinE (toE e) (toE f)))
def L_e10 : TL := (10, X10) :: L_e9
theorem e10.t : TabOK P G (tab L_e10) := TabOK_mkC C e9.t Tryd.func10 (by kernel_rfl) (by
  rintro ⟨e, f, _⟩ ρ xs w hg hG hF hr
  obtain ⟨x, y, rfl, h1, h2⟩ := rls2 hr
  refine (join_walk hG (env_at hF h1 (two_ok hg).1) (env_at hF h2 (two_ok hg).2)).mono ?_
  rintro _ w' ⟨v, rfl, hb, hv⟩
  exact ⟨v, rfl, hb, env_res hv⟩)
abbrev sE3 : PD (cE.T × cE.T × (Cd.list cI64).T × Unit) := dP (dA cE) (dP (dA cE) (dP (dD (.list cI64)) dU))
theorem rls3 {ρ : Rf} {e f : cE.T} {zs : List Int} {xs : List Value} (h : SV.rls ρ (sE3.enc (e, f, zs, ())) xs) : ∃ x y z, xs = [x, y, z] ∧ SV.rl ρ (.agg (cellsD cE e)) x ∧ SV.rl ρ (.agg (cellsD cE f)) y ∧ rc ρ.fz (.list cI64) zs [z] := by
  match xs, h with
  | [x, y, z], h => simp only [sE3, dP, dA, dD, dU, List.append_nil, List.cons_append, List.nil_append, cellsD, SV.rls, and_true] at h; exact ⟨x, y, z, rfl, h.1, h.2.1, by have := h.2.2; simpa only [SV.rl] using this⟩
  | [], h => simp [sE3, dP, dA, dU, SV.rls] at h
  | [_], h => simp [sE3, dP, dA, dU, SV.rls] at h
  | [_, _], h => simp [sE3, dP, dA, dD, cellsD, dU, SV.rls] at h
  | _ :: _ :: _ :: _ :: _, h => simp [sE3, dP, dA, dD, cellsD, dU, SV.rls] at h
def X11 : FV := mkX sE3 (fun | (e, f, zs, _) => envOK e && envOK f && thrOK zs) (fun | (e, f, zs, _) => enE (widE zs (toE e) (toE f)))
def L_e11 : TL := (11, X11) :: L_e10
theorem e11.t : TabOK P G (tab L_e11) := TabOK_mkC C e10.t Tryd.func11 (by kernel_rfl) (by
  rintro ⟨e, f, zs, _⟩ ρ xs w hg hG hF hr
  obtain ⟨x, y, z, rfl, h1, h2, h3⟩ := rls3 hr
  have hg : (envOK e && envOK f && thrOK zs) = true := hg
  rw [Bool.and_eq_true] at hg
  obtain ⟨a, c, rfl, hz, _⟩ := thr_at hF h3 (thrOK_iff.1 hg.2)
  refine (widen_walk hG (env_at hF h1 (two_ok hg.1).1) (env_at hF h2 (two_ok hg.1).2) (tc := c) hz).mono ?_
  rintro _ w' ⟨v, rfl, hb, hv⟩
  exact ⟨v, rfl, hb, env_res hv⟩)
/-- a store's parts -/
theorem lists_at {ρ : Rf} {w : World} {ls : List (List Int)} {v : Value} (hF : FOK ρ w) (h : rc ρ.fz (.list (.list cI64)) ls [v]) (ho : (∀ l ∈ ls, intsOK l) ∧ ls.length * 24 ≤ big40) : ∃ (a : Option Addr) (c : Nat), v = .slice a ls.length c ∧ Lists w a ls := by
  obtain ⟨a, cap, rfl, hc, hi⟩ := rc_at h
  refine ⟨a, cap, rfl, ⟨ho.2, fun i hlt => ?_⟩⟩
  obtain ⟨b, o, ws, e, h1, h2⟩ := hi i hlt
  have eg : ls.getD i (Cd.dflt (.list cI64)) = ls[i] := by simp [List.getD_eq_getElem?_getD, List.getElem?_eq_getElem hlt]
  rw [eg] at h2
  have h2' : ∃ v, ws = [v] := by simp only [rc] at h2; obtain ⟨a, c, e, _⟩ := h2; exact ⟨_, e⟩
  obtain ⟨v, rfl⟩ := h2'
  obtain ⟨p, c, rfl, ht, h6⟩ := thr_at hF h2 (ho.1 _ (List.getElem_mem hlt))
  have k := hF _ _ _ (h1 0 _ rfl)
  simp only [Cd.size, Nat.mul_one, Nat.add_zero] at k
  exact ⟨b, o, p, c, e, cell_lt k, k, ht, h6⟩
def stP (s : List Int × List (List Int)) : Prop := intsOK s.1 ∧ (∀ l ∈ s.2, intsOK l) ∧ s.2.length * 24 ≤ big40
def stOK (s : List Int × List (List Int)) : Bool := @decide (stP s) (Classical.propDecidable _)
theorem stOK_iff {s : List Int × List (List Int)} : stOK s = true ↔ stP s := by simp [stOK]
theorem store_at {ρ : Rf} {w : World} {s : List Int × List (List Int)} {x : Value} (hF : FOK ρ w) (h : SV.rl ρ (.agg (cellsD cSt s)) x) (ho : stP s) : StoreAt w x s.1 s.2 := by
  simp only [SV.rl] at h
  obtain ⟨xs, rfl, h⟩ := h
  simp only [cellsD, List.cons_append, List.nil_append] at h
  match xs, h with
  | [x1, x2], h =>
    simp only [SV.rls, SV.rl, and_true] at h
    obtain ⟨h1, h2⟩ := h
    obtain ⟨a, c, rfl, ht, h6⟩ := thr_at hF h1 ho.1
    obtain ⟨b, d, rfl, hl⟩ := lists_at hF h2 ho.2
    exact ⟨a, c, b, d, rfl, ht, h6, hl⟩
  | [], h => simp [SV.rls] at h
  | [_], h => simp [SV.rls] at h
  | _ :: _ :: _ :: _, h => simp [SV.rls] at h
abbrev sES : PD (cE.T × cSt.T × Unit) := dP (dA cE) (dP (dA cSt) dU)
theorem rlsS {ρ : Rf} {e : cE.T} {f : cSt.T} {xs : List Value} (h : SV.rls ρ (sES.enc (e, f, ())) xs) : ∃ x y, xs = [x, y] ∧ SV.rl ρ (.agg (cellsD cE e)) x ∧ SV.rl ρ (.agg (cellsD cSt f)) y := by
  match xs, h with
  | [x, y], h => simp only [sES, dP, dA, dU, List.append_nil, List.cons_append, List.nil_append, SV.rls, and_true] at h; exact ⟨x, y, rfl, h⟩
  | [], h => simp [sES, dP, dA, dU, SV.rls] at h
  | [_], h => simp [sES, dP, dA, dU, SV.rls] at h
  | _ :: _ :: _ :: _, h => simp [sES, dP, dA, dU, SV.rls] at h
def X14 : FV := mkX sES (fun | (e, s, _) => envOK e && stOK s) (fun | (e, s, _) => .val (.bool (hasE (toE e) s.1 s.2)))
def L_e14 : TL := (14, X14) :: L_e11
theorem e14.t : TabOK P G (tab L_e14) := TabOK_mkC C e11.t Tryd.func14 (by kernel_rfl) (by
  rintro ⟨e, s, _⟩ ρ xs w hg hG hF hr
  obtain ⟨x, y, rfl, h1, h2⟩ := rlsS hr
  have hg : (envOK e && stOK s) = true := hg
  rw [Bool.and_eq_true] at hg
  refine (has_walk hG (env_at hF h1 (envOK_iff.1 hg.1)) (store_at hF h2 (stOK_iff.1 hg.2))).mono ?_
  rintro _ w' ⟨rfl, hb⟩
  exact ⟨_, rfl, hb, by simp [SV.rl]⟩)
theorem noSums (m g : Bool) : ∀ c, LoopsOK P G ({ merge := m, glue := g } : Heads).sums c := fun c => LoopsOK_nil c
/-- 'of': an Env of some Nums -/
def X15 : FV := mkX (dP (dD (.list cN)) dU) (fun _ => true) (fun | (l, _) => .agg [.val (.bool false), .dl cN l, .val (.slice none 0 0)])
def L_e15 : TL := (15, X15) :: L_e14
theorem e15.t : TabOK P G (tab L_e15) := TabOK_mkX C e14.t Tryd.func15 (by kernel_rfl) { merge := true, glue := true } (noSums true true) 60 (by
  rintro ⟨l, _⟩ h
  kernel_rfl)
end
end Go.Proofs.YtmadebejnhinoaaDoor.V


set_option linter.unusedVariables false
set_option linter.unusedSimpArgs false
namespace Go.Proofs.YtmadebejnhinoaaDoor.V
open Go Go.Wk Go.RowKit
noncomputable section
def one15 (x : Nm) : Bool × List Nm × List Nm := (false, [x], [])
theorem one_ok {x : Nm} (h : Raw x) : envOK (one15 x) = true := by
  rw [envOK_iff]
  refine ⟨⟨?_, ?_⟩, ?_, ?_⟩
  · intro y hy; simp only [toE, one15, List.mem_singleton] at hy; subst hy; exact h
  · simp [toE, one15, big40]
  · intro y hy; simp [toE, one15] at hy
  · simp [toE, one15]
abbrev HD : Heads := { merge := true, glue := true }
theorem i64_lit {n : Int} (h : -1000 ≤ n) (h' : n ≤ 1000) : I64 n := ⟨by omega, by omega⟩
theorem raw_c {n : Int} (h : -1000 ≤ n) (h' : n ≤ 1000) : Raw (num_Const n) := by rw [num_Const_s (i64_lit h h')]; exact raw_const (i64_lit h h')
theorem raw_r : Raw (num_Range 0 5) := by
  rw [num_Range_s (i64_lit (by omega) (by omega)) (i64_lit (by omega) (by omega))]
  exact (make_nf (i64_lit (by omega) (by omega)) (i64_lit (by omega) (by omega)) ⟨by omega, by omega⟩ ⟨by omega, by omega⟩).raw
set_option maxRecDepth 100000 in
theorem f6.r : runX P G (tab L_e15) HD 60 Tryd.f6 [] = bif envOK (one15 (num_Const 1)) && envOK (one15 (num_Const 4)) then
   (bif envOK (one15 (num_Const 1)) && envOK (one15 (num_Range 0 5)) then (bif envOK (one15 (num_Range 0 5)) && envOK (one15 (num_Const 1)) then (bif envOK (one15 (num_Const 1)) && envOK (one15 (num_Range 0 5)) then
     (bif envOK (one15 (num_Const 1)) && envOK (one15 (num_Const 2)) then some (.val (.bool (meetE (toE (one15 (num_Const 1))) (toE (one15 (num_Const 2)))).dead)) else none) else none) else none) else none) else none := by kernel_rfl
set_option maxRecDepth 100000 in
theorem f6.m : (meetE (toE (one15 (num_Const 1))) (toE (one15 (num_Const 2)))).dead = true := by kernel_rfl
def X6 : FV := mkX dU (fun _ => true) (fun _ => .val (.bool true))
def L_e6 : TL := (6, X6) :: L_e15
theorem e6.t : TabOK P G (tab L_e6) := TabOK_mkX C e15.t Tryd.func6 (by kernel_rfl) HD (noSums true true) 60 (by
  rintro _ h
  refine f6.r.trans ?_
  rw [one_ok (raw_c (n := 1) (by omega) (by omega)), one_ok (raw_c (n := 4) (by omega) (by omega)), one_ok (raw_c (n := 2) (by omega) (by omega)), one_ok raw_r, f6.m]
  rfl)
end
end Go.Proofs.YtmadebejnhinoaaDoor.V

