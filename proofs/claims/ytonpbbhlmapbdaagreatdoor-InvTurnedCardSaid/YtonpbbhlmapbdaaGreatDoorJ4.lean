/- InvTurned: its first statement. Conditions: none. -/
import Derived.Test.YtonpbbhlmapbdaaGreatDoorJ3
set_option linter.unusedVariables false
set_option linter.unusedSimpArgs false
namespace Go.Proofs.YtonpbbhlmapbdaaGreatDoor.V
open Go Go.Wk Go.RowKit Go.MapKept

noncomputable def opsT : Array Oper := match fbody Tryz.f12 with
  | .seq _ (.seq (.region _ ops _) _) => ops
  | _ => #[]
def keyT (o : Oper) : Option Tmp × Op × Option (Nat × Bool) × List Nat := (o.dst, o.op, o.guard, (o.after.toList.filter fun e => Region.binds .any e).map (·.on))
theorem opsT_key : opsT.toList.map keyT =
    [(some 12, .makeMap 68 none, none, []), (none, .insert 68 (.tmp 12) (.const (.int .i64 8)) (.const (.int .i64 10)), none, [0]), (none, .insert 68 (.tmp 12) (.const (.int .i64 9)) (.const (.int .i64 11)), none, [0]),
     (none, .insert 68 (.tmp 12) (.const (.int .i64 10)) (.const (.int .i64 8)), none, [0]), (none, .insert 68 (.tmp 12) (.const (.int .i64 11)) (.const (.int .i64 9)), none, [0]),
     (none, .insert 68 (.tmp 12) (.const (.int .i64 12)) (.const (.int .i64 12)), none, [0]), (none, .insert 68 (.tmp 12) (.const (.int .i64 13)) (.const (.int .i64 13)), none, [0]),
     (some 13, .move (.tmp 12), none, [0, 1, 2, 3, 4, 5, 6]), (some 14, .move (.tmp 0), none, []), (some 15, .lookup 68 (.tmp 13) (.tmp 14) false, none, [7, 8]), (some 5, .assign (.tmp 15), none, [9, 0, 1, 2, 3, 4, 5, 6, 7, 8, 9])] := by kernel_rfl
theorem opsT_at {i : Nat} {o : Oper} (h : opsT[i]? = some o) : i < 11 ∧ (opsT.toList.map keyT)[i]? = some (keyT o) := by
  have e : opsT.toList[i]? = some o := by simpa using h
  have e2 : (opsT.toList.map keyT)[i]? = some (keyT o) := by rw [List.getElem?_map, e]; rfl
  have e3 := (List.getElem?_eq_some_iff.1 e2).1
  rw [opsT_key] at e3
  exact ⟨by simpa using e3, e2⟩
theorem after_mem {o : Oper} {l : List Nat} (h : (o.after.toList.filter fun e => Region.binds .any e).map (·.on) = l) : (∀ e ∈ o.after, Region.binds .any e = true → e.on ∈ l) ∧ ∀ j ∈ l, ∃ e ∈ o.after, Region.binds .any e = true ∧ e.on = j := by
  subst h
  refine ⟨fun e he hb => List.mem_map.2 ⟨e, List.mem_filter.2 ⟨by simpa using he, hb⟩, rfl⟩, fun j hj => ?_⟩
  obtain ⟨e, h1, rfl⟩ := List.mem_map.1 hj
  obtain ⟨h2, h3⟩ := List.mem_filter.1 h1
  exact ⟨e, by simpa using h2, h3, rfl⟩
theorem mem_of {i j : Nat} {done : List Nat} (h : j ∈ i :: done) (hne : j ≠ i) : j ∈ done := (List.mem_cons.1 h).elim (fun e => absurd e hne) id
theorem TI.step_ins {op : Int} {nb : Nat} {W0 : World} {done : List Nat} {j : Nat} {a : Act} {w : World} {Q : Exit → Act → World → Prop} {o : Oper} (I : TI op nb W0 done a w) (hnd : j ∉ done) (ho : opsT[j]? = some o) (h1 : 1 ≤ j) (h6 : j ≤ 6) (h0 : 0 ∈ done)
    (hdst : o.dst = none) {k v : Int} (hop : o.op = .insert 68 (.tmp 12) (.const (.int .i64 k)) (.const (.int .i64 v))) (hg : o.guard = none) (hk : k = (j : Int) + 7) (hv : v = bkS ((j : Int) + 7)) : wpOp P opsT Q j (fun a' w' => TI op nb W0 (j :: done) a' w') a w := by
  obtain ⟨m, es, clock, hm, e12, e13, hh, he⟩ := I.map h0
  obtain ⟨es', clock', w', hr, hm', he', hbw⟩ := ins_run he hh hnd h1 h6 hk hv
  refine wpOp_skip ho hg (w' := w') ?_ ?_
  · simp only [execOp, hop, ev_of e12]
    simp [Act.eval, e12, hr, Result.andThen]
  · rw [hdst]
    exact ⟨I.df, I.sz, I.r0, I.r3, I.r4, I.hb.trans (hbw _ hm), fun _ => ⟨m, es', clock', hm, e12, fun h => e13 (mem_of h (by omega)), hm', he'⟩, fun h => I.r8 (mem_of h (by omega)), fun h => I.r9 (mem_of h (by omega)), fun h => I.r10 (mem_of h (by omega)),
      fun i hi hne => List.mem_cons_of_mem _ h0, fun h i hi => List.mem_cons_of_mem _ (I.c7 (mem_of h (by omega)) i hi)⟩
theorem TI.step_put {op : Int} {nb : Nat} {W0 : World} {done : List Nat} {i d : Nat} {a : Act} {w : World} {v : Value} (I : TI op nb W0 done a w) (hd : d < 104) (h0 : d ≠ 0) (h3 : d ≠ 3) (h4 : d ≠ 4) (h12 : d ≠ 12) (h13 : d = 13 → i = 7) (h14 : d = 14 → i = 8) (h15 : d = 15 → i = 9) (h5 : d = 5 → i = 10) (hi : i = 0 ∨ 6 < i) (hnd : i ∉ done) (hi0 : i ≠ 0)
    (hc : i ≠ 8 → 0 ∈ done) (v7 : i = 7 → d = 13 ∧ (∀ j, j ≤ 6 → j ∈ done) ∧ a.tmps[12]? = some v) (v8 : i = 8 → d = 14 ∧ v = .int .i64 op) (v9 : i = 9 → d = 15 ∧ v = .int .i64 (bkS op)) (v10 : i = 10 → d = 5 ∧ v = .int .i64 (bkS op)) : TI op nb W0 (i :: done) (a.put (some d) v) w where
  df := I.df
  sz := by rw [put_size]; exact I.sz
  r0 := put_get I.sz hd I.r0 (Ne.symm h0)
  r3 := put_get I.sz hd I.r3 (Ne.symm h3)
  r4 := put_get I.sz hd I.r4 (Ne.symm h4)
  hb := I.hb
  map := fun h => by
    obtain ⟨m, es, clock, hm, e12, e13, hh, he⟩ := I.map (mem_of h (Ne.symm hi0))
    refine ⟨m, es, clock, hm, put_get I.sz hd e12 (Ne.symm h12), fun h => ?_, hh, he.skip hi⟩
    by_cases e : i = 7
    · obtain ⟨rfl, _, e2⟩ := v7 e
      rw [put_same I.sz hd, ← e2, e12]
    · exact put_get I.sz hd (e13 (mem_of h (Ne.symm e))) (fun q => e (h13 q.symm))
  r8 := fun h => by
    by_cases e : i = 8
    · obtain ⟨rfl, rfl⟩ := v8 e
      exact put_same I.sz hd
    · exact put_get I.sz hd (I.r8 (mem_of h (Ne.symm e))) (fun q => e (h14 q.symm))
  r9 := fun h => by
    by_cases e : i = 9
    · obtain ⟨rfl, rfl⟩ := v9 e
      exact put_same I.sz hd
    · exact put_get I.sz hd (I.r9 (mem_of h (Ne.symm e))) (fun q => e (h15 q.symm))
  r10 := fun h => by
    by_cases e : i = 10
    · obtain ⟨rfl, rfl⟩ := v10 e
      exact put_same I.sz hd
    · exact put_get I.sz hd (I.r10 (mem_of h (Ne.symm e))) (fun q => e (h5 q.symm))
  cl := fun j hj hne => by
    rcases List.mem_cons.1 hj with rfl | hj
    · exact List.mem_cons_of_mem _ (hc hne)
    · exact List.mem_cons_of_mem _ (I.cl j hj hne)
  c7 := fun h j hj => by
    by_cases e : i = 7
    · exact List.mem_cons_of_mem _ ((v7 e).2.1 j hj)
    · exact List.mem_cons_of_mem _ (I.c7 (mem_of h (Ne.symm e)) j hj)
theorem turned_step {op : Int} {nb : Nat} {W0 : World} {Q : Exit → Act → World → Prop} (done : List Nat) (i : Nat) (o : Oper) (a : Act) (w : World) (I : TI op nb W0 done a w) (hnd : i ∉ done) (ho : opsT[i]? = some o)
    (hedge : ∀ e ∈ o.after, Region.binds .any e = true → e.on ∈ done) : wpOp P opsT Q i (fun a' w' => TI op nb W0 (i :: done) a' w') a w := by
  obtain ⟨hi, hk⟩ := opsT_at ho
  rw [opsT_key] at hk
  have pre : ∀ l : List Nat, (o.after.toList.filter fun e => Region.binds .any e).map (·.on) = l → ∀ j ∈ l, j ∈ done := fun l hl j hj => by
    obtain ⟨e, h1, h2, rfl⟩ := (after_mem hl).2 j hj
    exact hedge e h1 h2
  match i, hi, hk with
  | 0, _, hk =>
    obtain ⟨hd, hop, hg, hl⟩ : some 12 = o.dst ∧ Op.makeMap 68 none = o.op ∧ none = o.guard ∧ [] = (o.after.toList.filter fun e => Region.binds .any e).map (·.on) := by simpa [keyT] using hk
    refine wpOp_value ho hg.symm (v := .map (some w.heap.size)) (w' := w.alloc (.map #[] 0)) ?_ ?_
    · simp only [execOp, ← hop]
      simp [run_makeMap, Result.andThen]
    · rw [← hd]
      have hn : ∀ i ∈ done, i = 8 := fun i hi => Decidable.byContradiction fun e => hnd (I.cl i hi e)
      refine ⟨I.df, by rw [put_size]; exact I.sz, put_get I.sz (by omega) I.r0 (by omega), put_get I.sz (by omega) I.r3 (by omega), put_get I.sz (by omega) I.r4 (by omega), I.hb.alloc I.hb.size _,
        fun _ => ⟨w.heap.size, #[], 0, I.hb.size, put_same I.sz (by omega), fun h => ?_, alloc_row _ _, ⟨by simp, fun j hj h1 h6 => ?_⟩⟩, fun h => put_get I.sz (by omega) (I.r8 (mem_of h (by omega))) (by omega), fun h => put_get I.sz (by omega) (I.r9 (mem_of h (by omega))) (by omega), fun h => put_get I.sz (by omega) (I.r10 (mem_of h (by omega))) (by omega),
        fun _ _ _ => by simp, fun h j hj => ?_⟩
      · exact absurd (hn 7 (mem_of h (by omega))) (by omega)
      · exact absurd (hn j (mem_of hj (by omega))) (by omega)
      · exact absurd (hn 7 (mem_of h (by omega))) (by omega)
  | 1, _, hk =>
    obtain ⟨hd, hop, hg, hl⟩ : none = o.dst ∧ Op.insert 68 (.tmp 12) (.const (.int .i64 8)) (.const (.int .i64 10)) = o.op ∧ none = o.guard ∧ [0] = (o.after.toList.filter fun e => Region.binds .any e).map (·.on) := by simpa [keyT] using hk
    exact I.step_ins hnd ho (by omega) (by omega) (pre _ hl.symm 0 (by simp)) hd.symm hop.symm hg.symm (by omega) (by decide)
  | 2, _, hk =>
    obtain ⟨hd, hop, hg, hl⟩ : none = o.dst ∧ Op.insert 68 (.tmp 12) (.const (.int .i64 9)) (.const (.int .i64 11)) = o.op ∧ none = o.guard ∧ [0] = (o.after.toList.filter fun e => Region.binds .any e).map (·.on) := by simpa [keyT] using hk
    exact I.step_ins hnd ho (by omega) (by omega) (pre _ hl.symm 0 (by simp)) hd.symm hop.symm hg.symm (by omega) (by decide)
  | 3, _, hk =>
    obtain ⟨hd, hop, hg, hl⟩ : none = o.dst ∧ Op.insert 68 (.tmp 12) (.const (.int .i64 10)) (.const (.int .i64 8)) = o.op ∧ none = o.guard ∧ [0] = (o.after.toList.filter fun e => Region.binds .any e).map (·.on) := by simpa [keyT] using hk
    exact I.step_ins hnd ho (by omega) (by omega) (pre _ hl.symm 0 (by simp)) hd.symm hop.symm hg.symm (by omega) (by decide)
  | 4, _, hk =>
    obtain ⟨hd, hop, hg, hl⟩ : none = o.dst ∧ Op.insert 68 (.tmp 12) (.const (.int .i64 11)) (.const (.int .i64 9)) = o.op ∧ none = o.guard ∧ [0] = (o.after.toList.filter fun e => Region.binds .any e).map (·.on) := by simpa [keyT] using hk
    exact I.step_ins hnd ho (by omega) (by omega) (pre _ hl.symm 0 (by simp)) hd.symm hop.symm hg.symm (by omega) (by decide)
  | 5, _, hk =>
    obtain ⟨hd, hop, hg, hl⟩ : none = o.dst ∧ Op.insert 68 (.tmp 12) (.const (.int .i64 12)) (.const (.int .i64 12)) = o.op ∧ none = o.guard ∧ [0] = (o.after.toList.filter fun e => Region.binds .any e).map (·.on) := by simpa [keyT] using hk
    exact I.step_ins hnd ho (by omega) (by omega) (pre _ hl.symm 0 (by simp)) hd.symm hop.symm hg.symm (by omega) (by decide)
  | 6, _, hk =>
    obtain ⟨hd, hop, hg, hl⟩ : none = o.dst ∧ Op.insert 68 (.tmp 12) (.const (.int .i64 13)) (.const (.int .i64 13)) = o.op ∧ none = o.guard ∧ [0] = (o.after.toList.filter fun e => Region.binds .any e).map (·.on) := by simpa [keyT] using hk
    exact I.step_ins hnd ho (by omega) (by omega) (pre _ hl.symm 0 (by simp)) hd.symm hop.symm hg.symm (by omega) (by decide)
  | 7, _, hk =>
    obtain ⟨hd, hop, hg, hl⟩ : some 13 = o.dst ∧ Op.move (.tmp 12) = o.op ∧ none = o.guard ∧ [0, 1, 2, 3, 4, 5, 6] = (o.after.toList.filter fun e => Region.binds .any e).map (·.on) := by simpa [keyT] using hk
    have hp := pre _ hl.symm
    obtain ⟨m, es, clock, hm, e12, e13, hh, he⟩ := I.map (hp 0 (by simp))
    refine wpOp_value ho hg.symm (v := .map (some m)) (w' := w) ?_ ?_
    · simp only [execOp, ← hop, ev_of e12]; rfl
    · rw [← hd]
      exact I.step_put (by omega) (by omega) (by omega) (by omega) (by omega) (by omega) (by omega) (by omega) (by omega) (by omega) hnd (by omega) (fun _ => hp 0 (by simp)) (fun _ => ⟨rfl, fun j hj => hp j (by simp; omega), e12⟩) (by omega) (by omega) (by omega)
  | 8, _, hk =>
    obtain ⟨hd, hop, hg, hl⟩ : some 14 = o.dst ∧ Op.move (.tmp 0) = o.op ∧ none = o.guard ∧ [] = (o.after.toList.filter fun e => Region.binds .any e).map (·.on) := by simpa [keyT] using hk
    refine wpOp_value ho hg.symm (v := .int .i64 op) (w' := w) ?_ ?_
    · simp only [execOp, ← hop, ev_of I.r0]; rfl
    · rw [← hd]
      exact I.step_put (by omega) (by omega) (by omega) (by omega) (by omega) (by omega) (by omega) (by omega) (by omega) (by omega) hnd (by omega) (by omega) (by omega) (fun _ => ⟨rfl, rfl⟩) (by omega) (by omega)
  | 9, _, hk =>
    obtain ⟨hd, hop, hg, hl⟩ : some 15 = o.dst ∧ Op.lookup 68 (.tmp 13) (.tmp 14) false = o.op ∧ none = o.guard ∧ [7, 8] = (o.after.toList.filter fun e => Region.binds .any e).map (·.on) := by simpa [keyT] using hk
    have hp := pre _ hl.symm
    have h7 := hp 7 (by simp)
    obtain ⟨m, es, clock, hm, e12, e13, hh, he⟩ := I.map (I.cl 7 h7 (by omega))
    have hr := look_run he hh (fun j _ h6 => I.c7 h7 j h6) op
    refine wpOp_value ho hg.symm (v := .int .i64 (bkS op)) (w' := w) ?_ ?_
    · simp only [execOp, ← hop, ev_of (e13 h7), ev_of (I.r8 (hp 8 (by simp)))]
      simp [hr, Result.andThen]
    · rw [← hd]
      exact I.step_put (by omega) (by omega) (by omega) (by omega) (by omega) (by omega) (by omega) (by omega) (by omega) (by omega) hnd (by omega) (fun _ => I.cl 7 h7 (by omega)) (by omega) (by omega) (fun _ => ⟨rfl, rfl⟩) (by omega)
  | 10, _, hk =>
    obtain ⟨hd, hop, hg, hl⟩ : some 5 = o.dst ∧ Op.assign (.tmp 15) = o.op ∧ none = o.guard ∧ [9, 0, 1, 2, 3, 4, 5, 6, 7, 8, 9] = (o.after.toList.filter fun e => Region.binds .any e).map (·.on) := by simpa [keyT] using hk
    have hp := pre _ hl.symm
    refine wpOp_value ho hg.symm (v := .int .i64 (bkS op)) (w' := w) ?_ ?_
    · simp only [execOp, ← hop, ev_of (I.r9 (hp 9 (by simp)))]; rfl
    · rw [← hd]
      exact I.step_put (by omega) (by omega) (by omega) (by omega) (by omega) (by omega) (by omega) (by omega) (by omega) (by omega) hnd (by omega) (fun _ => hp 0 (by simp)) (by omega) (by omega) (by omega) (fun _ => ⟨rfl, rfl⟩)
theorem turned_after {i : Nat} {o : Oper} (ho : opsT[i]? = some o) : ∀ e ∈ o.after, Region.binds .any e = true → e.on < i := by
    intro e he hb
    obtain ⟨hi, hk⟩ := opsT_at ho
    rw [opsT_key] at hk
    have key : ∀ l : List Nat, (o.after.toList.filter fun e => Region.binds .any e).map (·.on) = l → e.on ∈ l := fun l hl => (after_mem hl).1 e he hb
    match i, hi, hk with
    | 0, _, hk =>
      have hl : ([] : List Nat) = (o.after.toList.filter fun e => Region.binds .any e).map (·.on) := by
        have := congrArg (fun z => z.map (fun y => y.2.2.2)) hk
        simpa [keyT] using this
      have := key _ hl.symm
      simp at this
    | 1, _, hk =>
      have hl : [0] = (o.after.toList.filter fun e => Region.binds .any e).map (·.on) := by
        have := congrArg (fun z => z.map (fun y => y.2.2.2)) hk
        simpa [keyT] using this
      have := key _ hl.symm
      simp at this
      omega
    | 2, _, hk =>
      have hl : [0] = (o.after.toList.filter fun e => Region.binds .any e).map (·.on) := by
        have := congrArg (fun z => z.map (fun y => y.2.2.2)) hk
        simpa [keyT] using this
      have := key _ hl.symm
      simp at this
      omega
    | 3, _, hk =>
      have hl : [0] = (o.after.toList.filter fun e => Region.binds .any e).map (·.on) := by
        have := congrArg (fun z => z.map (fun y => y.2.2.2)) hk
        simpa [keyT] using this
      have := key _ hl.symm
      simp at this
      omega
    | 4, _, hk =>
      have hl : [0] = (o.after.toList.filter fun e => Region.binds .any e).map (·.on) := by
        have := congrArg (fun z => z.map (fun y => y.2.2.2)) hk
        simpa [keyT] using this
      have := key _ hl.symm
      simp at this
      omega
    | 5, _, hk =>
      have hl : [0] = (o.after.toList.filter fun e => Region.binds .any e).map (·.on) := by
        have := congrArg (fun z => z.map (fun y => y.2.2.2)) hk
        simpa [keyT] using this
      have := key _ hl.symm
      simp at this
      omega
    | 6, _, hk =>
      have hl : [0] = (o.after.toList.filter fun e => Region.binds .any e).map (·.on) := by
        have := congrArg (fun z => z.map (fun y => y.2.2.2)) hk
        simpa [keyT] using this
      have := key _ hl.symm
      simp at this
      omega
    | 7, _, hk =>
      have hl : [0, 1, 2, 3, 4, 5, 6] = (o.after.toList.filter fun e => Region.binds .any e).map (·.on) := by
        have := congrArg (fun z => z.map (fun y => y.2.2.2)) hk
        simpa [keyT] using this
      have := key _ hl.symm
      simp at this
      omega
    | 8, _, hk =>
      have hl : ([] : List Nat) = (o.after.toList.filter fun e => Region.binds .any e).map (·.on) := by
        have := congrArg (fun z => z.map (fun y => y.2.2.2)) hk
        simpa [keyT] using this
      have := key _ hl.symm
      simp at this
    | 9, _, hk =>
      have hl : [7, 8] = (o.after.toList.filter fun e => Region.binds .any e).map (·.on) := by
        have := congrArg (fun z => z.map (fun y => y.2.2.2)) hk
        simpa [keyT] using this
      have := key _ hl.symm
      simp at this
      omega
    | 10, _, hk =>
      have hl : [9, 0, 1, 2, 3, 4, 5, 6, 7, 8, 9] = (o.after.toList.filter fun e => Region.binds .any e).map (·.on) := by
        have := congrArg (fun z => z.map (fun y => y.2.2.2)) hk
        simpa [keyT] using this
      have := key _ hl.symm
      simp at this
      omega
theorem turned_ops {op : Int} {nb : Nat} {Q : Exit → Act → World → Prop} {W0 : World}
    (hQ : ∀ a' w', a'.defers = [] → a'.tmps.size = 104 → a'.tmps[0]? = some (.int .i64 op) → a'.tmps[3]? = some (.pointer (some ⟨nb, 0, none⟩)) → a'.tmps[4]? = some (.bool false) → a'.tmps[5]? = some (.int .i64 (bkS op)) → Below W0.heap.size W0 w' → Q .normal a' w') :
    ∀ (n k : Nat) (done : List Nat) (a : Act) (w : World), k + n = 11 → (∀ i, i ∈ done ↔ i < k) → TI op nb W0 done a w → wpOps P opsT Q (List.range' k n) a w
  | 0, k, done, a, w, hk, hd, I => hQ a w I.df I.sz I.r0 I.r3 I.r4 (I.r10 ((hd 10).2 (by omega))) I.hb
  | n + 1, k, done, a, w, hk, hd, I => by
    rw [List.range'_succ, wpOps_cons]
    have hs : opsT.size = 11 := by kernel_rfl
    have ho : opsT[k]? = some opsT[k] := Array.getElem?_eq_getElem (by omega)
    refine wpOp_mono (fun a' w' h => turned_ops hQ n (k + 1) (k :: done) a' w' (by omega) (fun i => ?_) h) (turned_step done k _ a w I (fun h => by have := (hd k).1 h; omega) ho fun e he hb => (hd _).2 (turned_after ho e he hb))
    rw [List.mem_cons, hd i]
    omega
theorem turned_region {op : Int} {nb : Nat} {Q : Exit → Act → World → Prop} {a : Act} {w : World} (h0 : TI op nb w [] a w)
    (hQ : ∀ a' w', a'.defers = [] → a'.tmps.size = 104 → a'.tmps[0]? = some (.int .i64 op) → a'.tmps[3]? = some (.pointer (some ⟨nb, 0, none⟩)) → a'.tmps[4]? = some (.bool false) → a'.tmps[5]? = some (.int .i64 (bkS op)) → Below w.heap.size w w' → Q .normal a' w') : (Code.region 1 opsT false).wp P Q a w := by
  refine wp_region ?_
  have hs : opsT.size = 11 := by kernel_rfl
  rw [hs, List.range_eq_range']
  exact turned_ops hQ 11 0 [] a w rfl (fun i => by simp) h0
end Go.Proofs.YtonpbbhlmapbdaaGreatDoor.V
