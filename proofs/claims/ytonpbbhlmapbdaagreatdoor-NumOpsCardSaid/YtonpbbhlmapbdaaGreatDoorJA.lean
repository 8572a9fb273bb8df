/- Parts: J1, RD. Conditions: none. -/
import Derived.WalkKit
import Derived.Orders
set_option linter.unusedVariables false
set_option linter.unusedSimpArgs false
namespace Go.Proofs.YtonpbbhlmapbdaaGreatDoor.V
open Go Go.RowKit
theorem least_of : ∀ (l : List Nat), l ≠ [] → ∃ m ∈ l, ∀ j ∈ l, m ≤ j
  | [], h => absurd rfl h
  | [a], _ => ⟨a, by simp, by simp⟩
  | a :: b :: r, _ => by
    obtain ⟨m, hm, hj⟩ := least_of (b :: r) (by simp)
    by_cases h : a ≤ m
    · refine ⟨a, by simp, fun j h' => ?_⟩
      rcases List.mem_cons.1 h' with e | h''
      · omega
      · exact Nat.le_trans h (hj j h'')
    · refine ⟨m, List.mem_cons_of_mem _ hm, fun j h' => ?_⟩
      rcases List.mem_cons.1 h' with e | h''
      · omega
      · exact hj j h''
theorem any_inv {P : Program} {ops : Array Oper} {Q : Exit → Act → World → Prop} (I : List Nat → Act → World → Prop)
    (step : ∀ done i o a w, I done a w → i ∉ done → ops[i]? = some o → (∀ e ∈ o.after, Region.binds .any e = true → e.on ∈ done) → wpOp P ops Q i (fun a' w' => I (i :: done) a' w') a w)
    (hb : ∀ i o, ops[i]? = some o → ∀ e ∈ o.after, Region.binds .any e = true → e.on < i)
    (fin : ∀ done a w, I done a w → (∀ i, i < ops.size → i ∈ done) → Q .normal a w) :
    ∀ (fuel : Nat) (rem : List Nat) (listed : Array Bool) (done : List Nat) (a : Act) (w : World), rem.Nodup → rem.length = fuel → listed.size = ops.size → (∀ j, j ∈ rem ↔ j < ops.size ∧ j ∉ done) →
      (∀ j, j < ops.size → (listed.getD j true = false ↔ j ∈ rem)) → I done a w → wpAny P .any ops Q fuel listed a w := by
  have empty : ∀ (rem : List Nat) (listed : Array Bool), listed.size = ops.size → (∀ j, j ∈ rem → j < ops.size) → (∀ j, j < ops.size → (listed.getD j true = false ↔ j ∈ rem)) → Region.ready .any ops listed = [] → rem = [] := by
    intro rem listed hs hr hl hnil
    by_cases hne : rem = []
    · exact hne
    · exfalso
      obtain ⟨m, hm, hmin⟩ := least_of rem hne
      have hlt := hr m hm
      have ho : ops[m]? = some ops[m] := Array.getElem?_eq_getElem hlt
      have : m ∈ Region.ready .any ops listed := by
        refine mem_ready.2 ⟨(hl m hlt).2 hm, ops[m], ho, fun e he hbi => ?_⟩
        have h1 := hb m ops[m] ho e he hbi
        have h2 : e.on < listed.size := by omega
        cases hg : listed.getD e.on false with
        | true => rfl
        | false =>
          exfalso
          have h3 : listed.getD e.on true = false := by simp only [Array.getD, h2, dif_pos] at hg ⊢; exact hg
          have := hmin e.on ((hl e.on (by omega)).1 h3)
          omega
      rw [hnil] at this
      simp at this
  intro fuel
  induction fuel with
  | zero =>
    intro rem listed done a w hn hlen hs hr hl hI
    have hrem : rem = [] := List.length_eq_zero_iff.1 hlen
    subst hrem
    refine ⟨?_, fin done a w hI fun i hi => Decidable.byContradiction fun hc => by have := (hr i).2 ⟨hi, hc⟩; simp at this⟩
    rw [List.eq_nil_iff_forall_not_mem]
    intro j hj
    obtain ⟨h1, o, ho, _⟩ := mem_ready.1 hj
    have hlt : j < ops.size := (Array.getElem?_eq_some_iff.1 ho).1
    have := (hl j hlt).1 h1
    simp at this
  | succ fuel ih =>
    intro rem listed done a w hn hlen hs hr hl hI
    refine ⟨fun hnil => ?_, fun i hi => ?_⟩
    · have := empty rem listed hs (fun j hj => ((hr j).1 hj).1) hl hnil
      rw [this] at hlen; simp at hlen
    · obtain ⟨h1, o, ho, hpre⟩ := mem_ready.1 hi
      have hlt : i < ops.size := (Array.getElem?_eq_some_iff.1 ho).1
      have him := (hl i hlt).1 h1
      have hnd := ((hr i).1 him).2
      refine wpOp_mono (fun a' w' hI' => ih (rem.erase i) _ (i :: done) a' w' (hn.erase i) (by rw [List.length_erase_of_mem him, hlen]; rfl) (by simpa using hs) ?_ ?_ hI') (step done i o a w hI hnd ho fun e he hbi => ?_)
      · intro j
        rw [hn.mem_erase_iff, hr j, List.mem_cons]
        constructor
        · rintro ⟨p, q, r⟩; exact ⟨q, fun h => h.elim p r⟩
        · rintro ⟨q, r⟩; exact ⟨fun h => r (.inl h), q, fun h => r (.inr h)⟩
      · intro j hj
        rw [hn.mem_erase_iff]
        by_cases e : j = i
        · subst e
          simp [Array.getD, hs, hj]
        · rw [← hl j hj]
          have hj2 : j < listed.size := by omega
          have hj3 : j < (listed.setIfInBounds i true).size := by simpa using hj2
          simp only [Array.getD, hj2, hj3, dif_pos, e, ne_eq, not_false_eq_true, true_and]
          rw [Array.getInternal_eq_getElem, Array.getInternal_eq_getElem, Array.getElem_setIfInBounds, if_neg (Ne.symm e)]
      · have hg := hpre e he hbi
        have h1 := hb i o ho e he hbi
        have h2 : e.on < listed.size := by omega
        refine Decidable.byContradiction fun hc => ?_
        have := (hl e.on (by omega)).2 ((hr e.on).2 ⟨by omega, hc⟩)
        simp only [Array.getD, h2, dif_pos] at this hg
        rw [this] at hg
        simp at hg
/-- the same, from the region -/
theorem wp_region_inv {P : Program} {id : Nat} {ops : Array Oper} {Q : Exit → Act → World → Prop} {a : Act} {w : World} (hm : P.follows .mixedOrders = true) (I : List Nat → Act → World → Prop)
    (step : ∀ done i o a w, I done a w → i ∉ done → ops[i]? = some o → (∀ e ∈ o.after, Region.binds .any e = true → e.on ∈ done) → wpOp P ops Q i (fun a' w' => I (i :: done) a' w') a w)
    (hb : ∀ i o, ops[i]? = some o → ∀ e ∈ o.after, Region.binds .any e = true → e.on < i)
    (fin : ∀ done a w, I done a w → (∀ i, i < ops.size → i ∈ done) → Q .normal a w) (h0 : I [] a { w with drawn := w.drawn + 1 }) : (Code.region id ops true).wp P Q a w := by
  refine wp_region_any hm (any_inv I step hb fin ops.size (List.range ops.size) _ [] a _ List.nodup_range (by simp) (by simp) (by intro j; simp) ?_ h0)
  intro j hj
  simp [hj]
/-- what an operation finds -/
structure Env (ops : Array Oper) (d : Nat → Nat) (Φ : Nat → Value → World → Prop) (a0 : Act) (w0 : World) (o : Oper) (a : Act) (w : World) : Prop where
  bel : Below w0.heap.size w0 w
  dep : ∀ e ∈ o.after, Region.binds .any e = true → Φ e.on (a.tmps.getD (d e.on) undef) w
  old : ∀ t, (∀ i, i < ops.size → d i ≠ t) → a.tmps[t]? = a0.tmps[t]?
theorem region_det {P : Program} {id : Nat} {ops : Array Oper} {Q : Exit → Act → World → Prop} {a0 : Act} {w0 : World} (hm : P.follows .mixedOrders = true) (d : Nat → Nat) (Φ : Nat → Value → World → Prop)
    (hd : ∀ i, i < ops.size → d i < a0.tmps.size) (hinj : ∀ i j, i < ops.size → j < ops.size → d i = d j → i = j)
    (stable : ∀ i v w w', Φ i v w → Below w.heap.size w w' → Φ i v w')
    (hb : ∀ i o, ops[i]? = some o → ∀ e ∈ o.after, Region.binds .any e = true → e.on < i)
    (step : ∀ i o a w, ops[i]? = some o → Env ops d Φ a0 w0 o a w → wpOp P ops Q i (fun a' w' => ∃ v, a' = a.put (some (d i)) v ∧ Below w.heap.size w w' ∧ Φ i v w') a w)
    (fin : ∀ a w, a.defers = a0.defers → a.tmps.size = a0.tmps.size → Below w0.heap.size w0 w → (∀ i, i < ops.size → Φ i (a.tmps.getD (d i) undef) w) → (∀ t, (∀ i, i < ops.size → d i ≠ t) → a.tmps[t]? = a0.tmps[t]?) → Q .normal a w) :
    (Code.region id ops true).wp P Q a0 w0 := by
  have lt_of : ∀ {i o}, ops[i]? = some o → i < ops.size := fun h => (Array.getElem?_eq_some_iff.1 h).1
  refine wp_region_inv hm (fun done a w => a.defers = a0.defers ∧ a.tmps.size = a0.tmps.size ∧ Below w0.heap.size w0 w ∧ (∀ i ∈ done, i < ops.size ∧ Φ i (a.tmps.getD (d i) undef) w) ∧ (∀ t, (∀ i, i < ops.size → d i ≠ t) → a.tmps[t]? = a0.tmps[t]?)) ?_ hb ?_ ?_
  · rintro done i o a w ⟨h1, h2, h3, h4, h5⟩ hnd ho hedge
    refine wpOp_mono ?_ (step i o a w ho ⟨h3, fun e he hbi => (h4 _ (hedge e he hbi)).2, h5⟩)
    rintro a' w' ⟨v, rfl, hbel, hv⟩
    have hi := lt_of ho
    refine ⟨h1, by simp [Act.put, h2], h3.trans (hbel.mono h3.size), fun j hj => ?_, fun t ht => ?_⟩
    · rcases List.mem_cons.1 hj with rfl | hj
      · refine ⟨hi, ?_⟩
        have : (a.put (some (d j)) v).tmps.getD (d j) undef = v := by
          simp only [Act.put, Array.getD_eq_getD_getElem?]
          rw [Array.getElem?_setIfInBounds, if_pos rfl, if_pos (by rw [h2]; exact hd j hi)]
          rfl
        rw [this]; exact hv
      · obtain ⟨hj1, hj2⟩ := h4 j hj
        refine ⟨hj1, ?_⟩
        have hne : d i ≠ d j := fun e => hnd (by rw [hinj i j hi hj1 e]; exact hj)
        have : (a.put (some (d i)) v).tmps.getD (d j) undef = a.tmps.getD (d j) undef := by
          simp only [Act.put, Array.getD_eq_getD_getElem?]
          rw [Array.getElem?_setIfInBounds, if_neg hne]
        rw [this]
        exact stable j _ _ _ hj2 hbel
    · have hne := ht i hi
      simp only [Act.put]
      rw [Array.getElem?_setIfInBounds, if_neg hne]
      exact h5 t ht
  · rintro done a w ⟨h1, h2, h3, h4, h5⟩ hall
    exact fin a w h1 h2 h3 (fun i hi => (h4 i (hall i hi)).2) h5
  · exact ⟨rfl, rfl, ⟨rfl, rfl, rfl, Nat.le_refl _, fun _ _ => rfl⟩, fun i hi => by simp at hi, fun t _ => rfl⟩
/-- a frame, by what was written -/
def puts (a : Act) (l : List (Nat × Value)) : Act := l.foldl (fun a p => a.put (some p.1) p.2) a
theorem puts_size (l : List (Nat × Value)) : ∀ a : Act, (puts a l).tmps.size = a.tmps.size ∧ (puts a l).defers = a.defers := by
  induction l with
  | nil => intro a; exact ⟨rfl, rfl⟩
  | cons p l ih =>
    intro a
    have := ih (a.put (some p.1) p.2)
    exact ⟨this.1.trans (by simp [Act.put]), this.2⟩
theorem puts_get (f : Nat → Value) (ds : List Nat) : ∀ (a : Act) (t : Nat), t < a.tmps.size → (puts a (ds.map fun t => (t, f t))).tmps[t]? = if t ∈ ds then some (f t) else a.tmps[t]? := by
  induction ds with
  | nil => intro a t ht; simp [puts]
  | cons d ds ih =>
    intro a t ht
    have e := ih (a.put (some d) (f d)) t (by simpa [Act.put] using ht)
    show (puts (a.put (some d) (f d)) (ds.map fun t => (t, f t))).tmps[t]? = _
    rw [e]
    by_cases h : t ∈ ds
    · rw [if_pos h, if_pos (List.mem_cons_of_mem _ h)]
    · rw [if_neg h]
      simp only [Act.put]
      rw [Array.getElem?_setIfInBounds]
      by_cases h' : d = t
      · subst h'
        rw [if_pos rfl, if_pos ht, if_pos (by simp)]
      · rw [if_neg h', if_neg (by simp only [List.mem_cons]; rintro (e | e); exact h' e.symm; exact h e)]
theorem frame_eq {a0 a : Act} (ds : List Nat) (h1 : a.defers = a0.defers) (h2 : a.tmps.size = a0.tmps.size) (h3 : ∀ t, t ∉ ds → a.tmps[t]? = a0.tmps[t]?) : a = puts a0 (ds.map fun t => (t, a.tmps.getD t undef)) := by
  obtain ⟨s1, s2⟩ := puts_size (ds.map fun t => (t, a.tmps.getD t undef)) a0
  have ht : a.tmps = (puts a0 (ds.map fun t => (t, a.tmps.getD t undef))).tmps := by
    refine Array.ext_getElem? fun t => ?_
    by_cases hlt : t < a0.tmps.size
    · rw [puts_get _ ds a0 t hlt]
      by_cases hm : t ∈ ds
      · rw [if_pos hm]
        simp [Array.getD_eq_getD_getElem?, show t < a.tmps.size by omega]
      · rw [if_neg hm, h3 t hm]
    · rw [Array.getElem?_eq_none (by omega), Array.getElem?_eq_none (by omega)]
  cases a with
  | mk t dd =>
    cases hp : puts a0 (ds.map fun t_1 => (t_1, (Act.mk t dd).tmps.getD t_1 undef)) with
    | mk t' d' =>
      rw [hp] at ht s2
      simp only at ht h1 s2 ⊢
      rw [ht, h1, ← s2]
end Go.Proofs.YtonpbbhlmapbdaaGreatDoor.V
