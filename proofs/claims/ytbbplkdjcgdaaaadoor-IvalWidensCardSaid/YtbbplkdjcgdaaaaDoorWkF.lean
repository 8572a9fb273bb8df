/- The walk by evaluation, part F: states, and one operation's step. Conditions: none. -/
import Derived.Test.YtbbplkdjcgdaaaaDoorWkE
set_option autoImplicit false
set_option linter.unusedVariables false
set_option linter.unusedSimpArgs false
set_option linter.unnecessarySimpa false
namespace Go.Wk
open Go Go.RowKit

structure St where
  tmps : List SV
  blks : List (Option LB)
  saved : List (List SV)

def rlss (ρ : Nat → Nat) : List (List SV) → List (List Value) → Prop
  | [], [] => True
  | l :: r, x :: xs => SV.rls ρ l x ∧ rlss ρ r xs
  | [], _ :: _ => False
  | _ :: _, [] => False
def freeLL (k : Nat) : List (List SV) → Bool
  | [] => true
  | l :: r => SV.freeL k l && freeLL k r
theorem rlss_upd (ρ : Nat → Nat) (k r : Nat) : ∀ {l : List (List SV)} {xs : List (List Value)}, freeLL k l = true → rlss ρ l xs → rlss (upd ρ k r) l xs
  | [], [], _, _ => by simp [rlss]
  | l :: r', x :: xs, hf, h => by
    simp only [freeLL, Bool.and_eq_true] at hf
    simp only [rlss] at h ⊢
    exact ⟨rls_upd ρ k r l x hf.1 h.1, rlss_upd ρ k r hf.2 h.2⟩
  | [], _ :: _, _, h => by simp [rlss] at h
  | _ :: _, [], _, h => by simp [rlss] at h

structure SRel (G : Glob) (base : Nat) (ρ : Nat → Nat) (st : St) (a : Act) (sv : List (List Value)) (w : World) : Prop where
  tm : SV.rls ρ st.tmps a.tmps.toList
  df : a.defers = []
  svd : rlss ρ st.saved sv
  M : MRel G base ρ st.blks w

def putD (tm : List SV) (d : Option Tmp) (v : SV) : List SV := match d with
  | some d => setN tm d v
  | none => tm
theorem put_rl {ρ : Nat → Nat} {tm : List SV} {a : Act} {v : SV} {x : Value} (d : Option Tmp) (h : SV.rls ρ tm a.tmps.toList) (hv : SV.rl ρ v x) : SV.rls ρ (putD tm d v) (a.put d x).tmps.toList := by
  cases d with
  | none => exact h
  | some d => simpa [putD, Act.put] using rls_set d h hv
theorem put_df (a : Act) (d : Option Tmp) (x : Value) : (a.put d x).defers = a.defers := by cases d <;> rfl

def newV (k : Nat) (n : Option Nat) : SV := match n with
  | none => .ptr k 0
  | some n => .slc k 0 n
def isNone' : Option LB → Bool
  | none => true
  | some _ => false
def stNew (st : St) (dst : Option Tmp) (k : Nat) (cs : List SV) (el : TypeId) (n : Option Nat) : Option St :=
  bif SV.freeL k st.tmps && (freeLL k st.saved && (freeB k st.blks && (SV.freeL k cs && (isNone' (blk? st.blks k) && Nat.blt k st.blks.length)))) then
    some { tmps := putD st.tmps dst (newV k n), blks := setB st.blks k ⟨cs, el⟩, saved := st.saved }
  else none
def stPut (st : St) (dst : Option Tmp) (i p : Nat) (cs : List SV) : Option St :=
  match blk? st.blks i with
  | some b => bif Nat.ble (p + cs.length) b.cells.length then some { tmps := putD st.tmps dst (.val undef), blks := setB st.blks i ⟨splice b.cells p cs, b.elem⟩, saved := st.saved } else none
  | none => none

section
variable {P : Program} {G : Glob} {T : Tab} {base : Nat}

theorem SRel.val {ρ : Nat → Nat} {st : St} {a : Act} {sv : List (List Value)} {w w' : World} {v : SV} {x : Value} (S : SRel G base ρ st a sv w) (d : Option Tmp) (hv : SV.rl ρ v x) (hb : Below w.heap.size w w') :
    SRel G base ρ { st with tmps := putD st.tmps d v } (a.put d x) sv w' :=
  ⟨put_rl d S.tm hv, by rw [put_df]; exact S.df, S.svd, S.M.below hb⟩

theorem below_base {w w' : World} {b : Nat} (hb : Below w.heap.size w w') (h : b ≤ w.heap.size) : Below b w w' := hb.mono h

theorem zeros_arr (z : Array Value) (n : Nat) : ((Array.range n).map fun i => z[i % z.size]!) = (zeros z.toList n).toArray := by
  apply Array.ext'
  simp [zeros]

theorem opN_wp {ρ : Nat → Nat} {st st' : St} {a : Act} {sv : List (List Value)} {w : World} {o : Oper} {k : Nat} {cs : List SV} {el : TypeId} {n : Option Nat} (S : SRel G base ρ st a sv w)
    (h : opN P (ev st.tmps) o = some (cs, el, n)) (hn : stNew st o.dst k cs el n = some st') {K : Act → World → Prop} {Q : Exit → Act → World → Prop}
    (hK : ∀ ρ' a' w', SRel G base ρ' st' a' sv w' → Below base w w' → K a' w') : o.wp P a w K Q := by
  have he := fun x => ev_rl S.tm x
  unfold stNew at hn
  cases hc : (SV.freeL k st.tmps && (freeLL k st.saved && (freeB k st.blks && (SV.freeL k cs && (isNone' (blk? st.blks k) && Nat.blt k st.blks.length))))) with
  | false => simp [hc] at hn
  | true =>
    simp only [hc, cond_true, Option.some.injEq] at hn
    simp only [Bool.and_eq_true] at hc
    obtain ⟨f1, f2, f3, f4, f5, f6⟩ := hc
    have hk : k < st.blks.length := by simpa [Nat.blt_eq] using f6
    have hnone : blk? st.blks k = none := by cases hb : blk? st.blks k <;> simp [hb, isNone'] at f5 ⊢
    have fin : ∀ (xs : List Value) (x : Value), SV.rls ρ cs xs → (execOp a.eval o).run P w = .ok (.value x) (w.alloc (.cells xs.toArray el)) →
        x = (match n with | none => .pointer (some ⟨w.heap.size, 0, none⟩) | some n => .slice (some ⟨w.heap.size, 0, none⟩) n n) → o.wp P a w K Q := by
      intro xs x hxs hrun hx
      unfold Oper.wp
      rw [hrun]
      refine hK (upd ρ k w.heap.size) _ _ ?_ (below_base (alloc_below w _) S.M.sz)
      subst hn
      refine ⟨?_, by rw [put_df]; exact S.df, rlss_upd ρ k _ f2 S.svd, S.M.new hk hnone f3 hxs f4⟩
      refine put_rl o.dst (rls_upd ρ k _ _ _ f1 S.tm) ?_
      subst hx
      cases n with
      | none => simp [newV, SV.rl, upd_same]
      | some n => simp only [newV, SV.rl]; exact ⟨_, n, rfl, Nat.le_refl _, .inr (by rw [upd_same])⟩
    obtain ⟨dst, op, type, pos, after, guard⟩ := o
    cases op <;> simp only [opN] at h <;> try (simp at h; done)
    case alloc t =>
      split at h <;> try (simp at h; done)
      rename_i z hz
      simp only [Option.some.injEq, Prod.mk.injEq] at h
      obtain ⟨rfl, rfl, rfl⟩ := h
      obtain ⟨v, h1, h2⟩ := run_zeroValue hz w
      refine fin z (.pointer (some ⟨w.heap.size, 0, none⟩)) (rls_vals z) ?_ rfl
      have : v.cells = z.toArray := by apply Array.ext'; simpa using h2
      simp [execOp, Instr.alloc, h1, newVar, newRow, this]
    case box t x =>
      split at h <;> try (simp at h; done)
      rename_i c hcs
      simp only [Option.some.injEq, Prod.mk.injEq] at h
      obtain ⟨rfl, rfl, rfl⟩ := h
      refine fin _ (.pointer (some ⟨w.heap.size, 0, none⟩)) (cellsOf_rl hcs (he x)) ?_ rfl
      simp [execOp, Instr.box, newVar, newRow]
    case buildSlice t m parts =>
      split at h <;> try (simp at h; done)
      rename_i el' hu
      split at h <;> try (simp at h; done)
      rename_i sz hs
      split at h <;> try (simp at h; done)
      rename_i z hz
      cases hle : (Nat.ble (m * sz) 16777216 && !(Nat.beq (m * sz) 0)) with
      | false => simp [hle] at h
      | true =>
        simp only [hle, cond_true] at h
        simp only [Bool.and_eq_true, Bool.not_eq_true'] at hle
        have h16 := Nat.le_of_ble_eq_true hle.1
        have h0 : m * sz ≠ 0 := fun e => by rw [e] at hle; simp at hle
        split at h <;> try (simp at h; done)
        rename_i c hc
        simp only [Option.some.injEq, Prod.mk.injEq] at h
        obtain ⟨rfl, rfl, rfl⟩ := h
        obtain ⟨v, h1, h2⟩ := run_zeroValue hz w
        obtain ⟨ys, hy, hyr⟩ := fill_run (parts_rl he parts.toList) (rls_vals (ρ := ρ) (zeros z (m * sz))) hc
        refine fin ys.toList (.slice (some ⟨w.heap.size, 0, none⟩) m m) hyr ?_ rfl
        have hp : (parts.map fun (i, x) => (i, a.eval x)).toList = (parts.toList.map fun p => (p.1, a.eval p.2)) := by simp
        have hv : v.cells.toList = z := h2
        have hz' := zeros_arr v.cells (m * sz)
        rw [hv] at hz'
        have hlim : ¬ (m * sz > 2 ^ 24) := by omega
        simp only [execOp, Instr.buildSlice, Sem.run_bind, run_underlying hu, run_sizeOf hs, Result.andThen_ok, hlim, h0, if_false, Sem.run_pure, h1, hz', hp, hy, newRow, run_newObj, Array.toArray_toList, World.alloc_eq]

theorem setRow_self (w : World) (g : Nat) (t : TypeId) (cur : Array Value) (hg : w.heap[g]? = some (.cells cur t (0, 0))) : w.setRow g cur = w := by
  have hlt : g < w.heap.size := (Array.getElem?_eq_some_iff.1 hg).1
  have hv : w.heap[g] = .cells cur t (0, 0) := (Array.getElem?_eq_some_iff.1 hg).2
  unfold World.setRow
  cases w with
  | mk heap tape drawn os output =>
    congr 1
    apply Array.ext
    · simp
    · intro k h1 h2
      simp only [Array.getElem_modify]
      split
      · rename_i hk; subst hk; simp at hv; simp [hv]
      · rfl
theorem run_storeCells_at (r p : Nat) (t : TypeId) : ∀ (vs : List Value) (i : Nat) (cur : Array Value) (w : World), w.heap[r]? = some (.cells cur t (0, 0)) → p + i + vs.length ≤ cur.size → (∀ v ∈ vs, v.oneCell' = true) →
    (storeCells ⟨r, p, none⟩ vs i).run P w = .ok () (w.setRow r (cur.toList.take (p + i) ++ (vs ++ cur.toList.drop (p + i + vs.length))).toArray)
  | [], i, cur, w, hg, hl, _ => by
    have : cur.toList.take (p + i) ++ ([] ++ cur.toList.drop (p + i + 0)) = cur.toList := by simp
    simp only [storeCells, List.length_nil]
    rw [this]
    simp [setRow_self w r t cur hg]
  | v :: rest, i, cur, w, hg, hl, h1 => by
    have hi : p + i < cur.size := by simp at hl; omega
    have hadd : (⟨r, p, none⟩ : Addr).add i = ⟨r, p + i, none⟩ := add_eq r p i
    have hcell : w.cell? ⟨r, p + i, none⟩ = some cur[p + i] := by simp [World.cell?, hg, hi]
    have hfro : w.frozen? ⟨r, p + i, none⟩ = false := by simp [World.frozen?, hg]
    have hst : (store ((⟨r, p, none⟩ : Addr).add i) v).run P w = .ok () (w.setRow r (cur.setIfInBounds (p + i) v)) := by
      rw [hadd, run_store P w _ v _ (h1 v (by simp)), hcell]
      simp [hfro, setCell_eq_setRow w r (p + i) cur t (0, 0) v hg]
    have ih := run_storeCells_at r p t rest (i + 1) (cur.setIfInBounds (p + i) v) (w.setRow r (cur.setIfInBounds (p + i) v)) (setRow_heap w r cur _ t _ hg) (by simp at hl ⊢; omega) (fun x hx => h1 x (by simp [hx]))
    simp only [storeCells, Sem.run_bind, hst, Result.andThen_ok, ih, setRow_setRow]
    congr 3
    apply List.ext_getElem?
    intro k
    simp only [Array.toList_setIfInBounds, List.getElem?_append, List.length_take, List.length_set, Array.length_toList, List.getElem?_take, List.getElem?_set, List.getElem?_drop, List.length_cons, List.getElem?_cons]
    simp only [List.length_cons] at hl
    by_cases hk : k < p + i
    · simp [hk, show k < min (p + (i + 1)) cur.size by omega, show min (p + i) cur.size = p + i by omega, show p + i ≠ k by omega, show k < p + (i + 1) by omega]
    · by_cases hk2 : k = p + i
      · subst hk2
        simp [show p + i < min (p + (i + 1)) cur.size by omega, show ¬ p + i < min (p + i) cur.size by omega, hi, show p + i - min (p + i) cur.size = 0 by omega, show p + i < p + (i + 1) by omega]
      · simp only [show ¬ k < min (p + (i + 1)) cur.size by omega, show ¬ k < min (p + i) cur.size by omega, if_false]
        rw [show min (p + (i + 1)) cur.size = p + (i + 1) by omega, show min (p + i) cur.size = p + i by omega]
        by_cases h3 : k - (p + (i + 1)) < rest.length
        · simp [h3, show k - (p + i) < rest.length + 1 by omega, show k - (p + i) ≠ 0 by omega, show k - (p + i) - 1 = k - (p + (i + 1)) by omega]
        · simp only [h3, if_false, show ¬ k - (p + i) < rest.length + 1 by omega]
          rw [if_neg (by omega)]
          congr 1
          omega

theorem opP_wp {ρ : Nat → Nat} {st st' : St} {a : Act} {sv : List (List Value)} {w : World} {o : Oper} {i p : Nat} {cs : List SV} (S : SRel G base ρ st a sv w)
    (h : opP P (ev st.tmps) o = some (i, p, cs)) (hn : stPut st o.dst i p cs = some st') {K : Act → World → Prop} {Q : Exit → Act → World → Prop}
    (hK : ∀ a' w', SRel G base ρ st' a' sv w' → Below base w w' → K a' w') : o.wp P a w K Q := by
  have he := fun x => ev_rl S.tm x
  unfold stPut at hn
  split at hn <;> try (simp at hn; done)
  rename_i b hb
  cases hle : Nat.ble (p + cs.length) b.cells.length with
  | false => simp [hle] at hn
  | true =>
    simp only [hle, cond_true, Option.some.injEq] at hn
    have hle' := Nat.le_of_ble_eq_true hle
    obtain ⟨dst, op, type, pos, after, guard⟩ := o
    cases op <;> simp only [opP] at h <;> try (simp at h; done)
    case store t x v =>
      split at h <;> try (simp at h; done)
      rename_i i' p' hx
      split at h <;> try (simp at h; done)
      rename_i c hc
      split at h <;> try (simp at h; done)
      rename_i n hs
      cases hq : (Nat.beq c.length n && ones c) with
      | false => simp [hq] at h
      | true =>
        simp only [hq, cond_true, Option.some.injEq, Prod.mk.injEq] at h
        obtain ⟨rfl, rfl, rfl⟩ := h
        simp only [Bool.and_eq_true] at hq
        have hn' := Nat.eq_of_beq_eq_true hq.1
        have hx1 := he x
        rw [hx] at hx1
        simp only [SV.rl] at hx1
        have hcr := cellsOf_rl hc (he v)
        have hone := ones_rls hq.2 hcr
        obtain ⟨xs, hh, hr, hbase⟩ := S.M.bk _ b hb
        have hl := rls_len hr
        have hl2 := rls_len hcr
        have hst : (storeCells ⟨ρ i', p', none⟩ (a.eval v).cells.toList).run P w = .ok () (w.setRow (ρ i') (xs.take p' ++ ((a.eval v).cells.toList ++ xs.drop (p' + (a.eval v).cells.toList.length))).toArray) := by
          have := run_storeCells_at (P := P) (ρ i') p' b.elem (a.eval v).cells.toList 0 xs.toArray w hh (by simp; simp at hl2; omega) hone
          simpa using this
        have hsz : (a.eval v).cells.size = n := by rw [← hn', hl2]; simp
        unfold Oper.wp
        have hrun : (execOp a.eval ⟨dst, .store t x v, type, pos, after, guard⟩).run P w = .ok .skip (w.setRow (ρ i') (xs.take p' ++ ((a.eval v).cells.toList ++ xs.drop (p' + (a.eval v).cells.toList.length))).toArray) := by
          simp [execOp, hx1, Instr.storeAt, Instr.sureAddr, storeVar, run_sizeOf hs, hsz, hst]
        rw [hrun]
        refine hK _ _ ?_ (setRow_below w (ρ i') base _ hbase)
        subst hn
        exact ⟨put_rl dst S.tm (by simp [SV.rl]), by rw [put_df]; exact S.df, S.svd, S.M.put hb hh hr hcr⟩

end
end Go.Wk
