/- The walk by evaluation, part I: tables of functions that are known, how arguments are taken apart, and flat data. Conditions: none. -/
import Derived.Test.YtbbplkdjcgdaaaaDoorWkH
import Derived.ProofKit
import Derived.OpenShut
import Derived.LaidMore
import Derived.Carry
set_option autoImplicit false
set_option linter.unusedVariables false
set_option linter.unusedSimpArgs false
set_option linter.unnecessarySimpa false
namespace Go.Wk
open Go Go.RowKit

abbrev FV := List Value → Option (Bool × Value)
abbrev TL := List (Nat × FV)
def lookT : TL → Nat → Option FV
  | [], _ => none
  | (g, F) :: r, n => bif Nat.beq g n then some F else lookT r n
def tab (l : TL) : Tab := lookT l

/-- what a program is asked once -/
structure Cx (P : Program) (G : Glob) : Prop where
  mixed : P.follows .mixedOrders = true
  names : NoCount P
  full : ∀ g cs, (g, cs) ∈ G → cs ≠ []

theorem noCount_of {P : Program} (h : P.funcs.toList.all (fun fn => !(fn.name == "runtime.NumGoroutine")) = true) : NoCount P := by
  intro g fn hf
  rw [List.all_eq_true] at h
  have := h fn (by simpa using Array.mem_of_getElem? hf)
  simpa using this

section
variable {P : Program} {G : Glob}
theorem gok_lt (C : Cx P G) {w : World} (h : GOK G w) : ∀ g cs, (g, cs) ∈ G → g < w.heap.size := by
  intro g cs hg
  cases cs with
  | nil => exact absurd rfl (C.full g [] hg)
  | cons v r => exact World.block_lt_of_cell? w ⟨g, 0, none⟩ (h g (v :: r) hg 0 v rfl)
theorem TabOK_nil : TabOK P G (tab []) := by intro g F h; simp [tab, lookT] at h
theorem TabOK_cons {l : TL} {f : Nat} {F : FV} {fn : Func} (h : TabOK P G (tab l)) (hf : P.funcs[f]? = some fn) (C : Cx P G) (hb : fn.body.isNone = false)
    (hF : ∀ vs v w, GOK G w → F vs = some (true, v) → Calls P f vs.toArray w fun e w' => e = .returned v ∧ Below w.heap.size w w') : TabOK P G (tab ((f, F) :: l)) := by
  intro g F' hg
  simp only [tab, lookT] at hg
  cases hb' : Nat.beq f g with
  | true =>
    simp only [hb', cond_true, Option.some.injEq] at hg
    subst hg
    have := Nat.eq_of_beq_eq_true hb'
    subst this
    exact ⟨⟨fn, hf, C.names _ _ hf, hb⟩, hF⟩
  | false =>
    simp only [hb', cond_false] at hg
    exact h g F' hg
theorem TabOK_run {l : TL} {f : Nat} {F : FV} {fn : Func} (C : Cx P G) (h : TabOK P G (tab l)) (hf : P.funcs[f]? = some fn) (hb : fn.body.isNone = false)
    (hF : ∀ vs v, F vs = some (true, v) → ∃ H d, (∀ c, fn.body = some c → LoopsOK P G H.sums c) ∧ runF P G (tab l) H d fn vs = some v) : TabOK P G (tab ((f, F) :: l)) :=
  TabOK_cons h hf C hb fun vs v w hG hv => by
    obtain ⟨H, d, hL, hr⟩ := hF vs v hv
    exact runF_calls' C.mixed C.names h hL hf hG (gok_lt C hG) hr
end

/-! arguments, taken apart -/
structure PS (α : Type) where
  dec : List Value → Option (α × List Value)
  enc : α → List Value
  ok : ∀ {vs p r}, dec vs = some (p, r) → vs = enc p ++ r
def cI (k : IntKind) : PS Int where
  dec := fun vs => match vs with
    | .int k' n :: r => bif decide (k' = k) then some (n, r) else none
    | _ => none
  enc n := [.int k n]
  ok := by
    intro vs p r h
    split at h <;> try (simp at h; done)
    rename_i k' n r'
    by_cases e : k' = k
    · simp only [e, decide_true, cond_true, Option.some.injEq, Prod.mk.injEq] at h
      obtain ⟨rfl, rfl⟩ := h
      subst e; rfl
    · simp [e] at h
def cB : PS Bool where
  dec := fun vs => match vs with
    | .bool b :: r => some (b, r)
    | _ => none
  enc b := [.bool b]
  ok := by
    intro vs p r h
    split at h <;> simp only [Option.some.injEq, Prod.mk.injEq, reduceCtorEq] at h
    obtain ⟨rfl, rfl⟩ := h; rfl
def cS : PS ByteArray where
  dec := fun vs => match vs with
    | .string b :: r => some (b, r)
    | _ => none
  enc b := [.string b]
  ok := by
    intro vs p r h
    split at h <;> simp only [Option.some.injEq, Prod.mk.injEq, reduceCtorEq] at h
    obtain ⟨rfl, rfl⟩ := h; rfl
def cU : PS Unit where
  dec := fun vs => some ((), vs)
  enc _ := []
  ok := by
    intro vs p r h
    simp only [Option.some.injEq, Prod.mk.injEq] at h
    rw [h.2]; rfl
def cP {α β : Type} (a : PS α) (b : PS β) : PS (α × β) where
  dec := fun vs => match a.dec vs with
    | none => none
    | some (x, r) => match b.dec r with
      | none => none
      | some (y, r') => some ((x, y), r')
  enc p := a.enc p.1 ++ b.enc p.2
  ok := by
    intro vs p r h
    split at h <;> try (simp at h; done)
    rename_i x r1 h1
    split at h <;> simp only [Option.some.injEq, Prod.mk.injEq, reduceCtorEq] at h
    rename_i y r2 h2
    obtain ⟨rfl, rfl⟩ := h
    rw [a.ok h1, b.ok h2, List.append_assoc]
def cA {α : Type} (a : PS α) : PS α where
  dec := fun vs => match vs with
    | .agg cs :: r => match a.dec cs.toList with
      | some (x, []) => some (x, r)
      | _ => none
    | _ => none
  enc p := [.agg (a.enc p).toArray]
  ok := by
    intro vs p r h
    split at h <;> try (simp at h; done)
    rename_i cs r'
    split at h <;> simp only [Option.some.injEq, Prod.mk.injEq, reduceCtorEq] at h
    rename_i x h1
    obtain ⟨rfl, rfl⟩ := h
    have := a.ok h1
    simp only [List.append_nil] at this
    rw [← this]; rfl
/-- one function value, and no other -/
def cF (g : Nat) : PS Unit where
  dec := fun vs => match vs with
    | .func (.func g') p c :: r => bif Nat.beq g g' && (p.toList.isEmpty && c.toList.isEmpty) then some ((), r) else none
    | _ => none
  enc _ := [.func (.func g) #[] #[]]
  ok := by
    intro vs p r h
    split at h <;> try (simp at h; done)
    rename_i g' p' c' r'
    obtain ⟨hb, h'⟩ := bif_t h
    clear h
    simp only [Option.some.injEq, Prod.mk.injEq, true_and] at h'
    simp only [Bool.and_eq_true, List.isEmpty_iff, Array.toList_eq_nil_iff] at hb
    obtain ⟨h1, h2, h3⟩ := hb
    have := Nat.eq_of_beq_eq_true h1
    subst this; subst h2; subst h3; subst h'
    rfl

def mkF {α : Type} (s : PS α) (g : α → Bool) (f : α → Value) : FV := fun vs => match s.dec vs with
  | some (p, []) => some (g p, f p)
  | _ => none
theorem mkF_inv {α : Type} {s : PS α} {g : α → Bool} {f : α → Value} {vs : List Value} {v : Value} (h : mkF s g f vs = some (true, v)) : ∃ p, vs = s.enc p ∧ g p = true ∧ v = f p := by
  unfold mkF at h
  split at h <;> simp only [Option.some.injEq, Prod.mk.injEq, reduceCtorEq] at h
  rename_i p hp
  exact ⟨p, by rw [s.ok hp]; simp, h.1, h.2.symm⟩
theorem TabOK_mkL {P : Program} {G : Glob} {α : Type} {l : TL} {f : Nat} {fn : Func} {s : PS α} {g : α → Bool} {r : α → Value} (C : Cx P G) (h : TabOK P G (tab l)) (hf : P.funcs[f]? = some fn) (hb : fn.body.isNone = false)
    (H : Heads) (hL : ∀ c, fn.body = some c → LoopsOK P G H.sums c) (d : Nat) (hF : ∀ p, g p = true → runF P G (tab l) H d fn (s.enc p) = some (r p)) : TabOK P G (tab ((f, mkF s g r) :: l)) :=
  TabOK_run C h hf hb fun vs v hv => by
    obtain ⟨p, rfl, hg, rfl⟩ := mkF_inv hv
    exact ⟨H, d, hL, hF p hg⟩
theorem TabOK_mk {P : Program} {G : Glob} {α : Type} {l : TL} {f : Nat} {fn : Func} {s : PS α} {g : α → Bool} {r : α → Value} (C : Cx P G) (h : TabOK P G (tab l)) (hf : P.funcs[f]? = some fn) (hb : fn.body.isNone = false)
    (m : Bool) (d : Nat) (hF : ∀ p, g p = true → runF P G (tab l) { merge := m } d fn (s.enc p) = some (r p)) : TabOK P G (tab ((f, mkF s g r) :: l)) :=
  TabOK_mkL C h hf hb { merge := m } (fun c _ => LoopsOK_nil c) d hF

/-- a way's end, told by its result -/
theorem pc {ρ γ : Type} (k : ρ → γ) (b : Bool) (X Y : γ) (p q : ρ) (hX : X = k p) (hY : Y = k q) : (bif b then X else Y) = k (bif b then p else q) := by cases b <;> assumption

theorem pn {ρ γ : Type} (k : ρ → γ) (b o1 o2 : Bool) (X Y : Option γ) (p q : ρ) (hX : o1 = true → X = some (k p)) (hY : o2 = true → Y = some (k q)) :
    (bif b then o1 else o2) = true → (bif b then X else Y) = some (k (bif b then p else q)) := by cases b <;> assumption
theorem pn_leaf {ρ γ : Type} (k : ρ → γ) (p : ρ) : true = true → some (k p) = some (k p) := fun _ => rfl
theorem pn_none {γ : Type} (X Y : Option γ) : false = true → X = Y := fun h => by simp at h

/-! flat data -/
mutual
def leaves {H : Type} : DataW H → List Lit
  | .lit l => [l]
  | .agg ps => leavesL ps
  | _ => []
def leavesL {H : Type} : List (DataW H) → List Lit
  | [] => []
  | d :: r => leaves d ++ leavesL r
end
inductive CK where
  | i (k : IntKind)
  | b
  | s
def CK.fits : CK → Lit → Prop
  | .i k, .int k' n => k' = k ∧ (Lit.int k n).wf = true
  | .b, .bool _ => True
  | .s, .string l => l.length ≤ maxLen
  | _, _ => False
def AllF : List CK → List Lit → Prop
  | [], [] => True
  | k :: ks, l :: ls => k.fits l ∧ AllF ks ls
  | [], _ :: _ => False
  | _ :: _, [] => False
theorem AllF_append : ∀ {ks ls : List _} {ks' ls' : List _}, AllF ks ls → AllF ks' ls' → AllF (ks ++ ks') (ls ++ ls')
  | [], [], _, _, _, h => h
  | _ :: _, _ :: _, _, _, h, h' => by simp only [AllF] at h; simp only [List.cons_append, AllF]; exact ⟨h.1, AllF_append h.2 h'⟩
  | [], _ :: _, _, _, h, _ => by simp [AllF] at h
  | _ :: _, [], _, _, h, _ => by simp [AllF] at h
def kindsFs (rec : TypeId → Option (List CK)) (P : Program) (off : Nat) : List Field → Option (List CK)
  | [] => some []
  | f :: r => bif Nat.beq f.offset off then (match rec f.type with
      | none => none
      | some ks => bif Nat.beq (P.cellsOf f.type) ks.length then (match kindsFs rec P (off + ks.length) r with
        | none => none
        | some l => some (ks ++ l)) else none) else none
def repK : Nat → List CK → List CK
  | 0, _ => []
  | n + 1, ks => ks ++ repK n ks
def kindsOf (P : Program) : Nat → TypeId → Option (List CK)
  | 0, _ => none
  | d + 1, t => match P.underlying t with
    | some (.array n e) => match kindsOf P d e with
      | none => none
      | some ks => bif Nat.beq ks.length (P.cellsOf e) && Nat.beq (n * ks.length) (P.cellsOf t) then some (repK n ks) else none
    | some .bool => some [.b]
    | some (.int k) => some [.i k]
    | some .string => some [.s]
    | some (.struct fs) => match kindsFs (kindsOf P d) P 0 fs.toList with
      | none => none
      | some ks => bif Nat.beq ks.length (P.cellsOf t) then some ks else none
    | _ => none

section
variable {H : Type} {enc : TypeId × Value → H} {P : Program} {w : World} {base : Nat} {spare : Nat → Bool} {held : Bool}
theorem trod_fields {d : Nat} (ih : ∀ (t : TypeId) (ks : List CK), kindsOf P d t = some ks → ∀ (fuel : Nat) (cs : List Value) (x : DataW H × List MemPlace), DataW.trod enc P w base spare held fuel t cs = some x →
      cs = (leaves x.1).map Lit.value ∧ AllF ks (leaves x.1) ∧ x.2 = []) {n : Nat} {cs : List Value} : ∀ (fs : List Field) (off : Nat) (ks : List CK) (xs : List (DataW H × List MemPlace)), kindsFs (kindsOf P d) P off fs = some ks →
    (∀ (i : Nat) (f : Field), fs[i]? = some f → DataW.trod enc P w base spare held n f.type ((cs.drop f.offset).take (P.cellsOf f.type)) = xs[i]?) → xs.length = fs.length → cs.length = off + ks.length →
    cs.drop off = (leavesL (xs.map (·.1))).map Lit.value ∧ AllF ks (leavesL (xs.map (·.1))) ∧ xs.flatMap (·.2) = []
  | [], off, ks, xs, hk, hf, hl, hc => by
    simp only [kindsFs, Option.some.injEq] at hk
    subst hk
    have : xs = [] := List.length_eq_zero_iff.1 (by simpa using hl)
    subst this
    simp only [List.length_nil, Nat.add_zero] at hc
    simp [leavesL, AllF, ← hc]
  | f :: r, off, ks, [], hk, hf, hl, hc => by simp at hl
  | f :: r, off, ks, y :: ys, hk, hf, hl, hc => by
    simp only [kindsFs] at hk
    cases ho : Nat.beq f.offset off with
    | false => simp [ho] at hk
    | true =>
      simp only [ho, cond_true] at hk
      have ho' := Nat.eq_of_beq_eq_true ho
      split at hk <;> try (simp at hk; done)
      rename_i k1 hk1
      cases hz : Nat.beq (P.cellsOf f.type) k1.length with
      | false => simp [hz] at hk
      | true =>
        simp only [hz, cond_true] at hk
        have hz' := Nat.eq_of_beq_eq_true hz
        split at hk <;> try (simp at hk; done)
        rename_i l hl2
        simp only [Option.some.injEq] at hk
        subst hk
        have h0 := hf 0 f rfl
        simp only [List.getElem?_cons_zero] at h0
        rw [ho', hz'] at h0
        obtain ⟨e1, e2, e3⟩ := ih _ _ hk1 n _ y h0
        have hrest := trod_fields ih (n := n) (cs := cs) r (off + k1.length) l ys hl2 (fun i g hg => by simpa using hf (i + 1) g (by simpa using hg)) (by simpa using hl) (by simp at hc ⊢; omega)
        obtain ⟨g1, g2, g3⟩ := hrest
        refine ⟨?_, ?_, ?_⟩
        · rw [← List.take_append_drop k1.length (cs.drop off), e1, List.drop_drop, g1]
          simp [leavesL]
        · simp only [List.map_cons, leavesL]; exact AllF_append e2 g2
        · simp [e3, g3]
theorem trod_elems {d m : Nat} {e : TypeId} {ks : List CK} (hk : kindsOf P d e = some ks) (ih : ∀ (t : TypeId) (ks : List CK), kindsOf P d t = some ks → ∀ (fuel : Nat) (cs : List Value) (x : DataW H × List MemPlace), DataW.trod enc P w base spare held fuel t cs = some x →
      cs = (leaves x.1).map Lit.value ∧ AllF ks (leaves x.1) ∧ x.2 = []) {cs : List Value} : ∀ (k i0 : Nat) (xs : List (DataW H × List MemPlace)), xs.length = k →
    (∀ i, i < k → DataW.trod enc P w base spare held m e ((cs.drop ((i0 + i) * ks.length)).take ks.length) = xs[i]?) → cs.length = (i0 + k) * ks.length →
    cs.drop (i0 * ks.length) = (leavesL (xs.map (·.1))).map Lit.value ∧ AllF (repK k ks) (leavesL (xs.map (·.1))) ∧ xs.flatMap (·.2) = []
  | 0, i0, xs, hl, hf, hc => by
    have : xs = [] := List.length_eq_zero_iff.1 hl
    subst this
    simp only [Nat.add_zero] at hc
    simp [leavesL, AllF, repK, ← hc]
  | k + 1, i0, [], hl, hf, hc => by simp at hl
  | k + 1, i0, y :: ys, hl, hf, hc => by
    have h0 := hf 0 (by omega)
    simp only [Nat.add_zero, List.getElem?_cons_zero] at h0
    obtain ⟨e1, e2, e3⟩ := ih _ _ hk m _ y h0
    obtain ⟨g1, g2, g3⟩ := trod_elems hk ih (cs := cs) k (i0 + 1) ys (by simpa using hl) (fun i hi => by
      have := hf (i + 1) (by omega)
      rw [show i0 + (i + 1) = i0 + 1 + i by omega] at this
      simpa using this) (by rw [hc]; congr 1; omega)
    refine ⟨?_, ?_, ?_⟩
    · rw [← List.take_append_drop ks.length (cs.drop (i0 * ks.length)), e1, List.drop_drop, show i0 * ks.length + ks.length = (i0 + 1) * ks.length by rw [Nat.succ_mul], g1]
      simp [leavesL]
    · simp only [List.map_cons, leavesL, repK]; exact AllF_append e2 g2
    · simp [e3, g3]
theorem trod_flat : ∀ (d : Nat) (t : TypeId) (ks : List CK), kindsOf P d t = some ks → ∀ (fuel : Nat) (cs : List Value) (x : DataW H × List MemPlace), DataW.trod enc P w base spare held fuel t cs = some x →
      cs = (leaves x.1).map Lit.value ∧ AllF ks (leaves x.1) ∧ x.2 = [] := by
  intro d
  induction d with
  | zero => intro t ks h; simp [kindsOf] at h
  | succ d ih =>
    intro t ks h fuel cs x hx
    simp only [kindsOf] at h
    split at h <;> try (simp at h; done)
    · rename_i n e hu
      split at h <;> try (simp at h; done)
      rename_i ks' hk
      obtain ⟨hb, h'⟩ := bif_t h
      clear h
      simp only [Option.some.injEq] at h'
      subst h'
      simp only [Bool.and_eq_true] at hb
      have b1 := Nat.eq_of_beq_eq_true hb.1
      have b2 := Nat.eq_of_beq_eq_true hb.2
      obtain ⟨xs, m, _, rfl, hl, hlen, hf⟩ := DataW.trod_array hu hx
      have := trod_elems (H := H) (enc := enc) (w := w) (base := base) (spare := spare) (held := held) (m := m) hk ih (cs := cs) n 0 xs hlen (fun i hi => by simpa [b1] using hf i hi) (by rw [hl, ← b2]; simp)
      simpa [leaves] using this
    · rename_i hu
      simp only [Option.some.injEq] at h; subst h
      cases fuel with
      | zero => simp [DataW.trod] at hx
      | succ fuel =>
        unfold DataW.trod at hx
        rw [hu] at hx
        split at hx <;> simp_all
        obtain rfl := hx
        simp [leaves, Lit.value, AllF, CK.fits]
    · rename_i k hu
      simp only [Option.some.injEq] at h; subst h
      obtain ⟨n, rfl, rfl, hw⟩ := DataW.trod_int hu hx
      simp [leaves, Lit.value, AllF, CK.fits, hw]
    · rename_i hu
      simp only [Option.some.injEq] at h; subst h
      cases fuel with
      | zero => simp [DataW.trod] at hx
      | succ fuel =>
        unfold DataW.trod at hx
        rw [hu] at hx
        split at hx <;> simp_all
        obtain ⟨hm, rfl⟩ := hx
        simp [leaves, Lit.value, AllF, CK.fits, hm]
    · rename_i fs hu
      split at h <;> try (simp at h; done)
      rename_i ks' hk
      cases hb : Nat.beq ks'.length (P.cellsOf t) with
      | false => simp [hb] at h
      | true =>
        simp only [hb, cond_true, Option.some.injEq] at h
        subst h
        have hb' := Nat.eq_of_beq_eq_true hb
        obtain ⟨xs, n, _, rfl, hl, hlen, hf⟩ := DataW.trod_struct hu hx
        have := trod_fields (H := H) (enc := enc) (w := w) (base := base) (spare := spare) (held := held) ih (n := n) (cs := cs) fs.toList 0 ks' xs hk (fun i f h => hf i f (by simpa using h)) (by simpa using hlen) (by omega)
        simpa [leaves] using this
end

/-- a flat argument, whole: its value, out of the leaves of its datum -/
theorem open_flat {H : Type} {enc : TypeId × Value → H} {P : Program} {w : World} {base b0 : Nat} {spare : Nat → Bool} {held : Bool} {r : Reach} {t : TypeId} {v : Value} {d : DataW H} {p : List MemPlace} {ks : List CK} {fs : Array Field}
    (hu : P.underlying t = some (.struct fs)) (hk : kindsOf P 9 t = some ks) (hv : Value.okWide P w r b0 t v) (h : DataW.Trod enc P w base spare held t v d p) :
    v = .agg ((leaves d).map Lit.value).toArray ∧ AllF ks (leaves d) ∧ p = [] := by
  obtain ⟨cs, rfl, hsz⟩ := Go.WideShapes.okWide_struct hu hv
  obtain ⟨fuel, hf⟩ := h
  obtain ⟨e1, e2, e3⟩ := trod_flat 9 t ks hk fuel _ _ hf
  refine ⟨?_, e2, e3⟩
  simp only [Value.cells] at e1
  rw [← e1]
theorem AllF_i {k : IntKind} {ks : List CK} {ls : List Lit} (h : AllF (.i k :: ks) ls) : ∃ n r, ls = .int k n :: r ∧ (Lit.int k n).wf = true ∧ AllF ks r := by
  cases ls with
  | nil => simp [AllF] at h
  | cons l r =>
    simp only [AllF] at h
    cases l <;> simp only [CK.fits] at h <;> try exact h.1.elim
    rename_i k' n
    obtain ⟨⟨rfl, hw⟩, h2⟩ := h
    exact ⟨n, r, rfl, hw, h2⟩
theorem AllF_b {ks : List CK} {ls : List Lit} (h : AllF (.b :: ks) ls) : ∃ n r, ls = .bool n :: r ∧ AllF ks r := by
  cases ls with
  | nil => simp [AllF] at h
  | cons l r =>
    simp only [AllF] at h
    cases l <;> simp only [CK.fits] at h <;> try exact h.1.elim
    rename_i n
    exact ⟨n, r, rfl, h.2⟩
theorem AllF_nil {ls : List Lit} (h : AllF [] ls) : ls = [] := by cases ls <;> simp_all [AllF]

end Go.Wk
