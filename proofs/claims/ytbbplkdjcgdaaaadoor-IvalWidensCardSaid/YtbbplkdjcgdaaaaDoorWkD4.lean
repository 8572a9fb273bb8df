/- The walk by evaluation, part D4: one order serves every order. Conditions: none. -/
import Derived.Test.YtbbplkdjcgdaaaaDoorWkD3
set_option autoImplicit false
set_option linter.unusedVariables false
set_option linter.unusedSimpArgs false
set_option linter.unnecessarySimpa false
namespace Go.Wk
open Go Go.RowKit

def edgeTo (o : Oper) (j : Nat) : Bool := o.after.toList.any fun e => Region.binds .any e && Nat.beq e.on j
def backs (i : Nat) (o : Oper) : Bool := o.after.toList.all fun e => !(Region.binds .any e) || Nat.blt e.on i
def pairOK (ops : Array Oper) (j : Nat) (oj oi : Oper) : Bool :=
  edgeTo oi j || (oj.apart ops oi && ((!(isPut oj) || !(isLoad oi || (isNew oi || isPut oi))) && (!(isPut oi) || !(isNew oj || isPut oj))))
def pairsOK (ops : Array Oper) (i : Nat) (oi : Oper) : Nat → List Oper → Bool
  | _, [] => true
  | j, oj :: r => bif Nat.blt j i then pairOK ops j oj oi && pairsOK ops i oi (j + 1) r else true
def allOK (ops : Array Oper) (l : List Oper) : Nat → List Oper → Bool
  | _, [] => true
  | i, oi :: r => backs i oi && (pairsOK ops i oi 0 l && allOK ops l (i + 1) r)
def swapOK (ops : Array Oper) : Bool := allOK ops ops.toList 0 ops.toList
/-- it comes behind each load ahead of it -/
def strongB (i : Nat) (oi : Oper) : Nat → List Oper → Bool
  | _, [] => true
  | j, oj :: r => bif Nat.blt j i then (!(isLoad oj) || edgeTo oi j) && strongB i oi (j + 1) r else true

theorem pairsOK_spec {ops : Array Oper} {i : Nat} {oi : Oper} : ∀ {l : List Oper} {k : Nat}, pairsOK ops i oi k l = true → ∀ j oj, k + j < i → l[j]? = some oj → pairOK ops (k + j) oj oi = true
  | [], k, _, j, oj, _, h => by simp at h
  | o :: r, k, h, 0, oj, hj, e => by
    have : Nat.blt k i = true := by rw [Nat.blt_eq]; omega
    simp only [pairsOK, this, cond_true, Bool.and_eq_true] at h
    simp at e; subst e; exact h.1
  | o :: r, k, h, j + 1, oj, hj, e => by
    have : Nat.blt k i = true := by rw [Nat.blt_eq]; omega
    simp only [pairsOK, this, cond_true, Bool.and_eq_true] at h
    have := pairsOK_spec h.2 j oj (by omega) (by simpa using e)
    rwa [show k + 1 + j = k + (j + 1) by omega] at this
theorem strongB_spec {i : Nat} {oi : Oper} : ∀ {l : List Oper} {k : Nat}, strongB i oi k l = true → ∀ j oj, k + j < i → l[j]? = some oj → (!(isLoad oj) || edgeTo oi (k + j)) = true
  | [], k, _, j, oj, _, h => by simp at h
  | o :: r, k, h, 0, oj, hj, e => by
    have : Nat.blt k i = true := by rw [Nat.blt_eq]; omega
    simp only [strongB, this, cond_true, Bool.and_eq_true] at h
    simp at e; subst e; exact h.1
  | o :: r, k, h, j + 1, oj, hj, e => by
    have : Nat.blt k i = true := by rw [Nat.blt_eq]; omega
    simp only [strongB, this, cond_true, Bool.and_eq_true] at h
    have := strongB_spec h.2 j oj (by omega) (by simpa using e)
    rwa [show k + 1 + j = k + (j + 1) by omega] at this
theorem allOK_spec {ops : Array Oper} {l : List Oper} : ∀ {m : List Oper} {k : Nat}, allOK ops l k m = true → ∀ i oi, m[i]? = some oi → backs (k + i) oi = true ∧ pairsOK ops (k + i) oi 0 l = true
  | [], k, _, i, oi, h => by simp at h
  | o :: r, k, h, 0, oi, e => by
    simp only [allOK, Bool.and_eq_true] at h
    simp at e; subst e; exact ⟨h.1, h.2.1⟩
  | o :: r, k, h, i + 1, oi, e => by
    simp only [allOK, Bool.and_eq_true] at h
    have := allOK_spec h.2.2 i oi (by simpa using e)
    rwa [show k + 1 + i = k + (i + 1) by omega] at this

theorem news_lt : ∀ (l : List Oper) (j i : Nat) (oj : Oper), j < i → l[j]? = some oj → isNew oj = true → news (l.take j) < news (l.take i)
  | [], j, i, oj, _, h, _ => by simp at h
  | o :: r, 0, i + 1, oj, _, h, hn => by simp at h; subst h; simp [news, hn]
  | o :: r, j + 1, i + 1, oj, hij, h, hn => by
    have := news_lt r j i oj (by omega) (by simpa using h) hn
    simp only [List.take_succ_cons, news]
    cases isNew o <;> simp <;> omega
  | o :: r, j, 0, oj, hij, _, _ => absurd hij (by omega)

section
variable {P : Program} {G : Glob} {T : Tab} {ops : Array Oper} {base : Nat}

def stepI (P : Program) (G : Glob) (T : Tab) (ops : Array Oper) (n0 : Nat) (i : Nat) (x : DX) : Option DX := match ops.toList[i]? with
  | some o => stepF P G T ops n0 (strongB i o 0 ops.toList) o (n0 + news (ops.toList.take i)) x
  | none => none
def runI (P : Program) (G : Glob) (T : Tab) (ops : Array Oper) (n0 : Nat) : List Nat → DX → Option DX
  | [], x => some x
  | i :: r, x => match stepI P G T ops n0 i x with
    | some y => runI P G T ops n0 r y
    | none => none

theorem runI_cons {n0 i : Nat} {r : List Nat} {x z : DX} : runI P G T ops n0 (i :: r) x = some z ↔ ∃ y, stepI P G T ops n0 i x = some y ∧ runI P G T ops n0 r y = some z := by
  simp only [runI]
  cases stepI P G T ops n0 i x <;> simp

theorem swapI (hok : swapOK ops = true) {n0 j i : Nat} (hij : j < i) {oi : Oper} (hi : ops.toList[i]? = some oi) (he : edgeTo oi j = false) {x y z : DX}
    (h1 : stepI P G T ops n0 j x = some y) (h2 : stepI P G T ops n0 i y = some z) : ∃ y', stepI P G T ops n0 i x = some y' ∧ stepI P G T ops n0 j y' = some z := by
  unfold stepI at h1
  split at h1 <;> try (simp at h1; done)
  rename_i oj hj
  unfold stepI at h2
  rw [hi] at h2
  simp only at h2
  have hp := pairsOK_spec (allOK_spec hok i oi hi).2 j oj (by omega) hj
  simp only [Nat.zero_add] at hp
  simp only [pairOK, he, Bool.false_or, Bool.and_eq_true, Bool.or_eq_true, Bool.not_eq_true', Bool.or_eq_false_iff] at hp
  obtain ⟨hap, p1, p2⟩ := hp
  have q1 : isPut oj = true → isLoad oi = false ∧ isNew oi = false ∧ isPut oi = false := by
    intro h
    rcases p1 with p | p
    · rw [p] at h; simp at h
    · exact ⟨p.1, p.2.1, p.2.2⟩
  have q2 : isPut oi = true → isNew oj = false ∧ isPut oj = false := by
    intro h
    rcases p2 with p | p
    · rw [p] at h; simp at h
    · exact p
  have := swap (P := P) (G := G) (T := T) (ops := ops) (n0 := n0) hap q1 q2
    (fun h => by
      have := strongB_spec h j oj (by omega) hj
      simp only [Nat.zero_add, he, Bool.or_false, Bool.not_eq_true'] at this
      exact this)
    (fun hn _ => by have := news_lt ops.toList j i oj hij hj hn; omega) (by omega) (by omega) h1 h2
  obtain ⟨y', a, b⟩ := this
  refine ⟨y', ?_, ?_⟩
  · unfold stepI; rw [hi]; exact a
  · unfold stepI; rw [hj]; exact b

theorem frontI (hok : swapOK ops = true) {n0 i : Nat} {oi : Oper} (hi : ops.toList[i]? = some oi) : ∀ (l1 l2 : List Nat) (x z : DX), (∀ j ∈ l1, j < i ∧ edgeTo oi j = false) → runI P G T ops n0 (l1 ++ i :: l2) x = some z →
    ∃ y, stepI P G T ops n0 i x = some y ∧ runI P G T ops n0 (l1 ++ l2) y = some z
  | [], l2, x, z, _, h => runI_cons.1 h
  | j :: l1, l2, x, z, hl, h => by
    obtain ⟨x2, h1, h2⟩ := runI_cons.1 h
    obtain ⟨x3, h3, h4⟩ := frontI hok hi l1 l2 x2 z (fun k hk => hl k (List.mem_cons_of_mem _ hk)) h2
    obtain ⟨y', h5, h6⟩ := swapI hok (hl j (by simp)).1 hi (hl j (by simp)).2 h1 h3
    exact ⟨y', h5, runI_cons.2 ⟨x3, h6, h4⟩⟩

/-- in memory -/
theorem stepF_wp (hT : TabOK P G T) {n0 i n : Nat} {s : Bool} {o : Oper} (hi : ops[i]? = some o) {ρ : Nat → Nat} {x y : DX} {a : Act} {sv : List (List Value)} {w : World} (S : SRel G base ρ x.1 a sv w)
    (h : stepF P G T ops n0 s o n x = some y) {K : Act → World → Prop} {Q : Exit → Act → World → Prop} (hK : ∀ ρ' a' w', SRel G base ρ' y.1 a' sv w' → Below base w w' → K a' w') : wpOp P ops Q i K a w := by
  obtain ⟨f, hf, ha⟩ := stepF_parts h
  unfold wpOp
  simp only [hi]
  have skip : some idleE = some f → K (a.put o.dst undef) w := by
    intro e
    simp only [Option.some.injEq] at e
    subst e
    obtain ⟨_, rfl⟩ := (applyF_idle (f := idleE) rfl).1 ha
    exact hK ρ _ _ (S.val o.dst (by simp [SV.rl, idleE]) (Below.refl _ _)) (Below.refl _ _)
  have run : evalRun P G T o n (ev x.1.tmps) x.1.blks = some f → o.wp P a w K Q := by
    intro hr
    unfold evalRun at hr
    split at hr
    · rename_i ok v hv
      obtain ⟨rfl, hr⟩ := bif_t hr
      cases hr
      obtain ⟨_, rfl⟩ := (applyF_idle (f := ⟨v, rdOf (ev x.1.tmps) o, .idle⟩) rfl).1 ha
      exact opV_wp hT (fun x => ev_rl S.tm x) S.M hv fun u w' hu hb => hK ρ _ _ (S.val o.dst hu hb) (below_base hb S.M.sz)
    · split at hr
      · rename_i cs el ln hn
        simp only [Option.some.injEq] at hr; subst hr
        obtain ⟨_, hnew, rfl⟩ := (applyF_new (f := ⟨newV n ln, 0, .new n ⟨cs, el⟩⟩) rfl).1 ha
        refine opN_wp S (st' := ⟨putD x.1.tmps o.dst (newV n ln), setB x.1.blks n ⟨cs, el⟩, x.1.saved⟩) (k := n) hn ?_ fun ρ' a' w' S' hb => hK ρ' a' w' S' hb
        unfold stNew
        unfold newOk at hnew
        simp only at hnew
        rw [hnew]; rfl
      · split at hr <;> simp only [Option.some.injEq, reduceCtorEq] at hr
        rename_i j p cs hp
        subst hr
        obtain ⟨_, b, hb, hc, rfl⟩ := (applyF_put (f := ⟨.val undef, 0, .put j p cs⟩) rfl).1 ha
        refine opP_wp S (st' := ⟨putD x.1.tmps o.dst (.val undef), setB x.1.blks j ⟨splice b.cells p cs, b.elem⟩, x.1.saved⟩) hp ?_ fun a' w' S' hb => hK ρ a' w' S' hb
        unfold stPut
        simp only [Bool.and_eq_true] at hc
        rw [hb]; simp only [hc.1, cond_true]
  unfold evalF at hf
  split at hf
  · rename_i hg
    rw [if_pos (gd_yes (ρ := ρ) hg)]
    exact .inl (run hf)
  · rename_i hg
    rw [gd_no S.tm hg]
    simp only [Bool.false_eq_true, if_false]
    exact skip hf
  · rename_i t b want hg
    rw [(gd_test S.tm hg).2]
    cases hb : (b == want) with
    | true => simp only [hb, cond_true] at hf; simp only [if_true]; exact .inl (run hf)
    | false => simp only [hb, cond_false] at hf; simp only [Bool.false_eq_true, if_false]; exact skip hf
  · simp at hf

theorem getD_any {l : Array Bool} {j : Nat} (h : j < l.size) (a b : Bool) : l.getD j a = l.getD j b := by simp [Array.getD, h]
theorem edgeTo_true {o : Oper} {j : Nat} (h : edgeTo o j = true) : ∃ e ∈ o.after, Region.binds .any e = true ∧ e.on = j := by
  unfold edgeTo at h
  rw [List.any_eq_true] at h
  obtain ⟨e, he, hb⟩ := h
  simp only [Bool.and_eq_true] at hb
  exact ⟨e, by simpa using he, hb.1, Nat.eq_of_beq_eq_true hb.2⟩

theorem any_wp (hT : TabOK P G T) (hok : swapOK ops = true) {n0 : Nat} {y : DX} {sv : List (List Value)} {Q : Exit → Act → World → Prop} : ∀ (fuel : Nat) (rem : List Nat) (listed : Array Bool) (x : DX) (ρ : Nat → Nat) (a : Act) (w : World),
    rem.length = fuel → listed.size = ops.size → rem.Pairwise (· < ·) → (∀ j, j ∈ rem ↔ j < ops.size ∧ listed.getD j true = false) → runI P G T ops n0 rem x = some y → SRel G base ρ x.1 a sv w →
    (∀ ρ' a' w', SRel G base ρ' y.1 a' sv w' → Below base w w' → Q .normal a' w') → wpAny P .any ops Q fuel listed a w
  | 0, rem, listed, x, ρ, a, w, hl, hs, hp, hm, hr, S, hQ => by
    have : rem = [] := List.length_eq_zero_iff.1 hl
    subst this
    simp only [runI, Option.some.injEq] at hr
    subst hr
    refine ⟨?_, hQ ρ a w S (Below.refl _ _)⟩
    rw [List.eq_nil_iff_forall_not_mem]
    intro j hj
    obtain ⟨h1, o, ho, _⟩ := mem_ready.1 hj
    have hlt : j < ops.size := (Array.getElem?_eq_some_iff.1 ho).1
    have := (hm j).2 ⟨hlt, h1⟩
    simp at this
  | fuel + 1, rem, listed, x, ρ, a, w, hl, hs, hp, hm, hr, S, hQ => by
    refine ⟨?_, ?_⟩
    · intro hnil
      exfalso
      match rem, hl with
      | r :: rest, _ =>
        obtain ⟨hr1, hr2⟩ := (hm r).1 (by simp)
        have hor : ops[r]? = some ops[r] := Array.getElem?_eq_getElem hr1
        have hb := (allOK_spec hok r ops[r] (by simp [hr1])).1
        simp only [Nat.zero_add] at hb
        have : r ∈ Region.ready .any ops listed := by
          refine mem_ready.2 ⟨hr2, ops[r], hor, fun e he hbind => ?_⟩
          unfold backs at hb
          rw [List.all_eq_true] at hb
          have h1 := hb e (by simpa using he)
          simp only [hbind, Bool.not_true, Bool.false_or, Nat.blt_eq] at h1
          cases hg : listed.getD e.on false with
          | true => rfl
          | false =>
            exfalso
            rw [getD_any (by omega) false true] at hg
            have hmem := (hm e.on).2 ⟨by omega, hg⟩
            simp only [List.mem_cons] at hmem
            rcases hmem with hmem | hmem
            · omega
            · have := List.rel_of_pairwise_cons hp hmem
              omega
        rw [hnil] at this
        simp at this
    · intro i hi
      obtain ⟨h1, oi, hoi, hpre⟩ := mem_ready.1 hi
      have hlt : i < ops.size := (Array.getElem?_eq_some_iff.1 hoi).1
      have hmem := (hm i).2 ⟨hlt, h1⟩
      obtain ⟨l1, l2, rfl⟩ := List.append_of_mem hmem
      have hoi' : ops.toList[i]? = some oi := by simpa using hoi
      rw [List.pairwise_append] at hp
      obtain ⟨p1, p2, p3⟩ := hp
      have hsw : ∀ j ∈ l1, j < i ∧ edgeTo oi j = false := by
        intro j hj
        refine ⟨p3 j hj i (by simp), ?_⟩
        cases he : edgeTo oi j with
        | false => rfl
        | true =>
          obtain ⟨e, hem, hbind, rfl⟩ := edgeTo_true he
          have h2 := hpre e hem hbind
          have h3 := ((hm e.on).1 (by simp [hj])).2
          rw [getD_any (by have := ((hm e.on).1 (by simp [hj])).1; omega) true false] at h3
          rw [h2] at h3
          simp at h3
      obtain ⟨x1, hx1, hx2⟩ := frontI hok hoi' l1 l2 x y hsw hr
      unfold stepI at hx1
      rw [hoi'] at hx1
      simp only at hx1
      refine stepF_wp hT hoi S hx1 fun ρ' a' w' S' hb => any_wp hT hok fuel (l1 ++ l2) _ x1 ρ' a' w' ?_ ?_ ?_ ?_ hx2 S' fun ρ'' a'' w'' S'' hb'' => hQ ρ'' a'' w'' S'' (hb.trans hb'')
      · simp at hl ⊢; omega
      · simpa using hs
      · rw [List.pairwise_append]
        exact ⟨p1, (List.pairwise_cons.1 p2).2, fun u hu v hv => p3 u hu v (List.mem_cons_of_mem _ hv)⟩
      · intro j
        have hj := hm j
        simp only [List.mem_append, List.mem_cons] at hj
        rw [List.mem_append]
        by_cases e : j = i
        · subst e
          have n1 : j ∉ l1 := fun h => by have := (hsw j h).1; omega
          have n2 : j ∉ l2 := fun h => by have := (List.pairwise_cons.1 p2).1 j h; omega
          simp [n1, n2, hlt, hs]
        · rw [getD_set_ne true (Ne.symm e), ← hj]
          simp [e]

/-! by evaluation -/
def litX (x : DX) (t : Nat) (b : Bool) : DX := (lit x.1 t b, x.2)
def apD {R : Type} (n0 : Nat) (s : Bool) (o : Oper) (f : Ef) (x : DX) (kk : DX → Option R) : Option R := match applyF n0 s o.dst f x with
  | some y => kk y
  | none => none
def runD {R : Type} (P : Program) (G : Glob) (T : Tab) (n0 : Nat) (s : Bool) (o : Oper) (n : Nat) (x : DX) (kk : DX → Option R) : Option R :=
  match opV P G T x.1.blks (ev x.1.tmps) o with
  | some (ok, v) => bif ok then apD n0 s o ⟨v, rdOf (ev x.1.tmps) o, .idle⟩ x kk else none
  | none => match opN P (ev x.1.tmps) o with
    | some (cs, el, ln) => apD n0 s o ⟨newV n ln, 0, .new n ⟨cs, el⟩⟩ x kk
    | none => match opP P (ev x.1.tmps) o with
      | some (i, p, cs) => apD n0 s o ⟨.val undef, 0, .put i p cs⟩ x kk
      | none => none
def stepD {R : Type} (P : Program) (G : Glob) (T : Tab) (ops : Array Oper) (n0 : Nat) (s : Bool) (o : Oper) (n : Nat) (x : DX) (kk : DX → Option R) : Option R :=
  match gd ops x.1.tmps o with
  | .yes => runD P G T n0 s o n x kk
  | .no => apD n0 s o idleE x kk
  | .test t b want => bif b then (bif want then runD P G T n0 s o n (litX x t true) kk else apD n0 s o idleE (litX x t true) kk)
      else (bif want then apD n0 s o idleE (litX x t false) kk else runD P G T n0 s o n (litX x t false) kk)
  | .bad => none
def exDs {R : Type} (P : Program) (G : Glob) (T : Tab) (ops : Array Oper) (n0 : Nat) : List Oper → Nat → Nat → DX → (DX → Option R) → Option R
  | [], _, _, x, k => k x
  | o :: os, i, n, x, k => stepD P G T ops n0 (strongB i o 0 ops.toList) o n x fun y => exDs P G T ops n0 os (i + 1) (bif isNew o then n + 1 else n) y k
def exD {R : Type} (P : Program) (G : Glob) (T : Tab) (ops : Array Oper) (st : St) (k : St → Option R) : Option R :=
  bif swapOK ops then exDs P G T ops st.blks.length ops.toList 0 st.blks.length (⟨st.tmps, st.blks ++ nones (news ops.toList), st.saved⟩, 0) fun x => k x.1 else none

theorem apD_spec {R : Type} {n0 : Nat} {s : Bool} {o : Oper} {f : Ef} {x : DX} {kk : DX → Option R} {r : R} (h : apD n0 s o f x kk = some r) : ∃ y, applyF n0 s o.dst f x = some y ∧ kk y = some r := by
  unfold apD at h
  split at h <;> try (simp at h; done)
  rename_i y hy; exact ⟨y, hy, h⟩
theorem runD_spec {R : Type} {n0 n : Nat} {s : Bool} {o : Oper} {x : DX} {kk : DX → Option R} {r : R} (h : runD P G T n0 s o n x kk = some r) :
    ∃ f y, evalRun P G T o n (ev x.1.tmps) x.1.blks = some f ∧ applyF n0 s o.dst f x = some y ∧ kk y = some r := by
  unfold runD at h
  split at h
  · rename_i ok v hv
    obtain ⟨rfl, h⟩ := bif_t h
    obtain ⟨y, h1, h2⟩ := apD_spec h
    exact ⟨_, y, by unfold evalRun; rw [hv]; rfl, h1, h2⟩
  · rename_i hv
    split at h
    · rename_i cs el ln hn
      obtain ⟨y, h1, h2⟩ := apD_spec h
      exact ⟨_, y, by unfold evalRun; rw [hv]; simp only [hn], h1, h2⟩
    · rename_i hn
      split at h <;> try (simp at h; done)
      rename_i i p cs hp
      obtain ⟨y, h1, h2⟩ := apD_spec h
      exact ⟨_, y, by unfold evalRun; rw [hv]; simp only [hn, hp], h1, h2⟩
theorem litX_same {x : DX} {t : Nat} {b : Bool} (h : nth x.1.tmps t = .val (.bool b)) : litX x t b = x := by
  unfold litX; rw [lit_same x.1 t b h]
theorem gd_slot {tm : List SV} {o : Oper} {t : Nat} {b want : Bool} (h : gd ops tm o = .test t b want) : nth tm t = .val (.bool b) := by
  unfold gd at h
  split at h <;> try (simp at h; done)
  split at h <;> try (simp at h; done)
  split at h <;> try (simp at h; done)
  split at h <;> try (simp at h; done)
  rename_i hv
  simp only [GD.test.injEq] at h
  obtain ⟨rfl, rfl, rfl⟩ := h
  exact hv
theorem stepD_spec {R : Type} {n0 n : Nat} {s : Bool} {o : Oper} {x : DX} {kk : DX → Option R} {r : R} (h : stepD P G T ops n0 s o n x kk = some r) : ∃ y, stepF P G T ops n0 s o n x = some y ∧ kk y = some r := by
  have mk : ∀ f y, evalF P G T ops o n x = some f → applyF n0 s o.dst f x = some y → stepF P G T ops n0 s o n x = some y := fun f y h1 h2 => stepF_mk h1 h2
  unfold stepD at h
  split at h
  · rename_i hg
    obtain ⟨f, y, h1, h2, h3⟩ := runD_spec h
    exact ⟨y, mk f y (by unfold evalF; rw [hg]; exact h1) h2, h3⟩
  · rename_i hg
    obtain ⟨y, h2, h3⟩ := apD_spec h
    exact ⟨y, mk idleE y (by unfold evalF; rw [hg]) h2, h3⟩
  · rename_i t b want hg
    have hv := gd_slot hg
    cases b <;> cases want <;> simp only [cond_true, cond_false, litX_same hv] at h
    · obtain ⟨f, y, h1, h2, h3⟩ := runD_spec h
      exact ⟨y, mk f y (by unfold evalF; rw [hg]; exact h1) h2, h3⟩
    · obtain ⟨y, h2, h3⟩ := apD_spec h
      exact ⟨y, mk idleE y (by unfold evalF; rw [hg]; rfl) h2, h3⟩
    · obtain ⟨y, h2, h3⟩ := apD_spec h
      exact ⟨y, mk idleE y (by unfold evalF; rw [hg]; rfl) h2, h3⟩
    · obtain ⟨f, y, h1, h2, h3⟩ := runD_spec h
      exact ⟨y, mk f y (by unfold evalF; rw [hg]; exact h1) h2, h3⟩
  · simp at h

theorem exDs_spec {R : Type} {n0 : Nat} {k : DX → Option R} {r : R} : ∀ (os : List Oper) (i n : Nat) (x : DX), ops.toList.drop i = os → n = n0 + news (ops.toList.take i) → exDs P G T ops n0 os i n x k = some r →
    ∃ y, runI P G T ops n0 (List.range' i os.length) x = some y ∧ k y = some r
  | [], i, n, x, _, _, h => ⟨x, rfl, h⟩
  | o :: os, i, n, x, hd, hn, h => by
    simp only [exDs] at h
    obtain ⟨y, h1, h2⟩ := stepD_spec h
    have hi : ops.toList[i]? = some o := by
      have := congrArg (fun l => l[0]?) hd
      simpa using this
    have hd' : ops.toList.drop (i + 1) = os := by
      have := congrArg (fun l => l.drop 1) hd
      simpa [List.drop_drop] using this
    have hn' : (bif isNew o then n + 1 else n) = n0 + news (ops.toList.take (i + 1)) := by
      have e : ∀ (l : List Oper) (i : Nat) (o : Oper), l[i]? = some o → news (l.take (i + 1)) = news (l.take i) + (bif isNew o then 1 else 0) := by
        intro l
        induction l with
        | nil => intro i o h; simp at h
        | cons a l ih =>
          intro i o h
          cases i with
          | zero => simp at h; subst h; simp [news]
          | succ i =>
            have := ih i o (by simpa using h)
            simp only [List.take_succ_cons, news] at this ⊢
            cases isNew a <;> simp_all <;> omega
      rw [e ops.toList i o hi, hn]
      cases isNew o <;> simp <;> omega
    obtain ⟨z, h3, h4⟩ := exDs_spec os (i + 1) _ y hd' hn' h2
    refine ⟨z, ?_, h4⟩
    rw [List.length_cons, List.range'_succ, runI_cons]
    refine ⟨y, ?_, h3⟩
    unfold stepI
    rw [hi]
    simp only
    rw [← hn]; exact h1

theorem exD_wp {R : Type} (hM : P.follows .mixedOrders = true) (hT : TabOK P G T) {id : Nat} {st : St} {k : St → Option R} {r : R} (h : exD P G T ops st k = some r) :
    Good P G (.region id ops true) st fun e st' => e = .nrm ∧ k st' = some r := by
  intro base ρ a sv w Q S hQ
  unfold exD at h
  obtain ⟨hok, h⟩ := bif_t h
  obtain ⟨y, h1, h2⟩ := exDs_spec ops.toList 0 _ _ rfl (by simp [news]) h
  refine wp_region_any hM ?_
  refine any_wp hT hok ops.size (List.range' 0 ops.toList.length) _ _ ρ a _ (by simp) (by simp) ?_ ?_ h1 ?_ fun ρ' a' w' S' hb => hQ .nrm y.1 ρ' a' w' ⟨rfl, h2⟩ S' ?_
  · exact List.pairwise_lt_range'
  · intro j; simp
    intro hj; simp [Array.getElem?_replicate, hj]
  · have S2 : SRel G base ρ ⟨st.tmps, st.blks ++ nones (news ops.toList), st.saved⟩ a sv w := S.tidy (st := st) fun i b hb => blk?_nones _ _ i b hb
    exact ⟨S2.tm, S2.df, S2.svd, S2.M.below ((Below.refl _ _).drew)⟩
  · exact ((Below.refl _ _).drew).trans hb
end
end Go.Wk
