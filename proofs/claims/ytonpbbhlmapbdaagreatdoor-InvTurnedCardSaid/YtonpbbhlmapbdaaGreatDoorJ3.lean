/- InvTurned: the statement that makes a map of six entries and looks one up, in whatever order. Conditions: none. -/
import Derived.WalkKit
import Derived.Test.YtonpbbhlmapbdaaGreatDoorJ2
import Derived.MapFrom
import Derived.Carry
set_option linter.unusedVariables false
set_option linter.unusedSimpArgs false
namespace Go.Proofs.YtonpbbhlmapbdaaGreatDoor.V
open Go Go.Wk Go.RowKit Go.MapKept

def bkS (op : Int) : Int := if op = 8 then 10 else if op = 9 then 11 else if op = 10 then 8 else if op = 11 then 9 else if op = 12 then 12 else if op = 13 then 13 else 0
/-- the entries after some inserts (numbers of operations 1 to 6) -/
structure Ent (done : List Nat) (es : Array MapEntry) : Prop where
  to : ∀ x ∈ es.toList, ∃ j : Nat, j ∈ done ∧ 1 ≤ j ∧ j ≤ 6 ∧ x.key = .int .i64 ((j : Int) + 7) ∧ x.val = .int .i64 (bkS ((j : Int) + 7))
  of : ∀ j ∈ done, 1 ≤ j → j ≤ 6 → ∃ x ∈ es.toList, x.key = .int .i64 ((j : Int) + 7)
theorem Ent.keys {done : List Nat} {es : Array MapEntry} (h : Ent done es) : ∀ x ∈ es.toList, IsKey (.int .i64) x.key := by
  intro x hx
  obtain ⟨j, _, _, _, e, _⟩ := h.to x hx
  rw [e]; simp [IsKey]
theorem Ent.skip {done : List Nat} {es : Array MapEntry} (h : Ent done es) {i : Nat} (hi : i = 0 ∨ 6 < i) : Ent (i :: done) es where
  to x hx := by
    obtain ⟨j, a, b⟩ := h.to x hx
    exact ⟨j, List.mem_cons_of_mem _ a, b⟩
  of j hj h1 h6 := by
    rcases List.mem_cons.1 hj with rfl | hj
    · omega
    · exact h.of j hj h1 h6
theorem und68 : P.underlying 68 = some (.map 34 34) := by kernel_rfl
theorem und34 : P.underlying 34 = some (.int .i64) := by kernel_rfl
theorem set_below (w : World) {n m : Nat} (o : Obj) (h : n ≤ m) : Below n w { w with heap := w.heap.setIfInBounds m o } :=
  ⟨rfl, rfl, rfl, by simp, fun k hk => by simp; rw [Array.getElem?_setIfInBounds, if_neg (by omega)]⟩
theorem ins_run {done : List Nat} {es : Array MapEntry} {clock m : Nat} {w : World} (h : Ent done es) (hm : w.heap[m]? = some (.map es clock)) {j : Nat} (hj : j ∉ done) (h1 : 1 ≤ j) (h6 : j ≤ 6) {k v : Int} (hk : k = (j : Int) + 7) (hv : v = bkS ((j : Int) + 7)) :
    ∃ es' clock' w', (Instr.mapUpdate 68 (.map (some m)) (.int .i64 k) (.int .i64 v)).run P w = .ok () w' ∧ w'.heap[m]? = some (.map es' clock') ∧ Ent (j :: done) es' ∧ ∀ n, n ≤ m → Below n w w' := by
  subst hk hv
  have kk : IsKey (.int .i64) (.int .i64 ((j : Int) + 7)) := by simp [IsKey]
  rcases findNow_spec kk es.toList 0 h.keys with ⟨h2, h3⟩ | ⟨i, e, h2, h3, h4⟩
  · refine ⟨es.push { key := .int .i64 ((j : Int) + 7), val := .int .i64 (bkS ((j : Int) + 7)), born := clock }, clock + 1, _, ?_, (heap_set hm).1, ?_, fun n hn => set_below w _ hn⟩
    · simp [Instr.mapUpdate, run_underlying und68, MapKept.run_getObj_map hm, run_checkKey und34 kk, run_findKey und34 h2, run_setObj_map _ hm, Result.andThen]
    · constructor
      · intro x hx
        simp only [Array.toList_push, List.mem_append, List.mem_singleton] at hx
        rcases hx with hx | rfl
        · obtain ⟨i, a, b⟩ := h.to x hx
          exact ⟨i, List.mem_cons_of_mem _ a, b⟩
        · exact ⟨j, by simp, h1, h6, rfl, rfl⟩
      · intro i hi a b
        rcases List.mem_cons.1 hi with rfl | hi
        · exact ⟨{ key := .int .i64 ((i : Int) + 7), val := .int .i64 (bkS ((i : Int) + 7)), born := clock }, by simp, rfl⟩
        · obtain ⟨x, hx, e⟩ := h.of i hi a b
          exact ⟨x, by simp [hx], e⟩
  · exfalso
    have hmem : e ∈ es.toList := List.mem_of_getElem? h3
    obtain ⟨i, a, _, _, b, _⟩ := h.to e hmem
    rw [b] at h4
    simp at h4
    obtain rfl : i = j := by omega
    exact hj a
theorem look_run {done : List Nat} {es : Array MapEntry} {clock m : Nat} {w : World} (h : Ent done es) (hm : w.heap[m]? = some (.map es clock)) (hall : ∀ j, 1 ≤ j → j ≤ 6 → j ∈ done) (op : Int) :
    (Instr.lookup 68 (.map (some m)) (.int .i64 op) false).run P w = .ok (.int .i64 (bkS op)) w := by
  have kk : IsKey (.int .i64) (.int .i64 op) := by simp [IsKey]
  have hz : (zeroValue 34).run P w = .ok (.int .i64 0) w := by kernel_rfl
  rcases findNow_spec kk es.toList 0 h.keys with ⟨h2, h3⟩ | ⟨i, e, h2, h3, h4⟩
  · have hn : bkS op = 0 := by
      have key : ∀ j : Nat, 1 ≤ j → j ≤ 6 → op ≠ (j : Int) + 7 := by
        intro j a b e
        obtain ⟨x, hx, e'⟩ := h.of j (hall j a b) a b
        exact h3 x hx (by rw [e', e])
      have k1 := key 1 (by decide) (by decide)
      have k2 := key 2 (by decide) (by decide)
      have k3 := key 3 (by decide) (by decide)
      have k4 := key 4 (by decide) (by decide)
      have k5 := key 5 (by decide) (by decide)
      have k6 := key 6 (by decide) (by decide)
      unfold bkS
      rw [if_neg (by omega), if_neg (by omega), if_neg (by omega), if_neg (by omega), if_neg (by omega), if_neg (by omega)]
    simp [Instr.lookup, run_underlying und68, MapKept.run_getObj_map hm, run_checkKey und34 kk, run_findKey und34 h2, hz, hn, Result.andThen]
  · have hmem : e ∈ es.toList := List.mem_of_getElem? h3
    obtain ⟨i, a, _, _, b, c⟩ := h.to e hmem
    rw [b] at h4
    have hop : op = (i : Int) + 7 := by simpa using h4.symm
    have hv : e.val = .int .i64 (bkS op) := by rw [c, hop]
    simp [Instr.lookup, run_underlying und68, MapKept.run_getObj_map hm, run_checkKey und34 kk, run_findKey und34 h2, hv, Result.andThen]
theorem wpOp_value {ops : Array Oper} {Q : Exit → Act → World → Prop} {i : Nat} {K : Act → World → Prop} {a : Act} {w w' : World} {o : Oper} {v : Value} (h : ops[i]? = some o) (hg : o.guard = none) (hr : (execOp a.eval o).run P w = .ok (.value v) w') (hK : K (a.put o.dst v) w') : wpOp P ops Q i K a w := by
  unfold wpOp
  simp only [h]
  rw [if_pos (by simp [Region.wanted, hg])]
  left
  unfold Oper.wp
  rw [hr]
  exact hK
theorem wpOp_skip {ops : Array Oper} {Q : Exit → Act → World → Prop} {i : Nat} {K : Act → World → Prop} {a : Act} {w w' : World} {o : Oper} (h : ops[i]? = some o) (hg : o.guard = none) (hr : (execOp a.eval o).run P w = .ok .skip w') (hK : K (a.put o.dst undef) w') : wpOp P ops Q i K a w := by
  unfold wpOp
  simp only [h]
  rw [if_pos (by simp [Region.wanted, hg])]
  left
  unfold Oper.wp
  rw [hr]
  exact hK
/-- what has been done so far -/
structure TI (op : Int) (nb : Nat) (W0 : World) (done : List Nat) (a : Act) (w : World) : Prop where
  df : a.defers = []
  sz : a.tmps.size = 104
  r0 : a.tmps[0]? = some (.int .i64 op)
  r3 : a.tmps[3]? = some (.pointer (some ⟨nb, 0, none⟩))
  r4 : a.tmps[4]? = some (.bool false)
  hb : Below W0.heap.size W0 w
  map : 0 ∈ done → ∃ m es clock, W0.heap.size ≤ m ∧ a.tmps[12]? = some (.map (some m)) ∧ (7 ∈ done → a.tmps[13]? = some (.map (some m))) ∧ w.heap[m]? = some (.map es clock) ∧ Ent done es
  r8 : 8 ∈ done → a.tmps[14]? = some (.int .i64 op)
  r9 : 9 ∈ done → a.tmps[15]? = some (.int .i64 (bkS op))
  r10 : 10 ∈ done → a.tmps[5]? = some (.int .i64 (bkS op))
  cl : ∀ i ∈ done, i ≠ 8 → 0 ∈ done
  c7 : 7 ∈ done → ∀ j, j ≤ 6 → j ∈ done
theorem ev_of {a : Act} {t : Nat} {v : Value} (h : a.tmps[t]? = some v) : a.eval (.tmp t) = v := by
  simp [Act.eval, Array.getD_eq_getD_getElem?, h]
theorem put_get {a : Act} {d t : Nat} {v x : Value} (hs : a.tmps.size = 104) (hd : d < 104) (h : a.tmps[t]? = some x) (hne : t ≠ d) : (a.put (some d) v).tmps[t]? = some x := by
  simp only [Act.put]
  rw [Array.getElem?_setIfInBounds, if_neg (fun e => hne e.symm)]
  exact h
theorem put_same {a : Act} {d : Nat} {v : Value} (hs : a.tmps.size = 104) (hd : d < 104) : (a.put (some d) v).tmps[d]? = some v := by
  simp only [Act.put]
  rw [Array.getElem?_setIfInBounds, if_pos rfl, if_pos (by omega)]
theorem put_size {a : Act} {d : Nat} {v : Value} : (a.put (some d) v).tmps.size = a.tmps.size := by simp [Act.put]
end Go.Proofs.YtonpbbhlmapbdaaGreatDoor.V
