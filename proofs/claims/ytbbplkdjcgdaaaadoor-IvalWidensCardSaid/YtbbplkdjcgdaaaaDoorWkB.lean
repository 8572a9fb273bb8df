/- The walk by evaluation, part B: memory, and what one operation does. Conditions: none. -/
import Derived.Test.YtbbplkdjcgdaaaaDoorWkA
set_option autoImplicit false
set_option linter.unusedVariables false
set_option linter.unusedSimpArgs false
set_option linter.unnecessarySimpa false
namespace Go.Wk
open Go Go.RowKit

abbrev Glob := List (Nat × List Value)
abbrev Tab := FuncId → Option (List Value → Option (Bool × Value))

def blk? : List (Option LB) → Nat → Option LB
  | [], _ => none
  | x :: _, 0 => x
  | _ :: r, n + 1 => blk? r n
def setB : List (Option LB) → Nat → LB → List (Option LB)
  | [], _, _ => []
  | _ :: r, 0, b => some b :: r
  | x :: r, n + 1, b => x :: setB r n b
def lookG : Glob → Nat → Option (List Value)
  | [], _ => none
  | (g, cs) :: r, n => bif Nat.beq g n then some cs else lookG r n

theorem blk?_eq : ∀ (l : List (Option LB)) (n : Nat), blk? l n = (l[n]?).join
  | [], _ => by simp [blk?]
  | x :: _, 0 => by simp [blk?]
  | _ :: r, n + 1 => by simp [blk?, blk?_eq r n]
theorem setB_eq : ∀ (l : List (Option LB)) (n : Nat) (b : LB), setB l n b = l.set n (some b)
  | [], _, _ => by simp [setB]
  | x :: _, 0, _ => by simp [setB]
  | _ :: r, n + 1, b => by simp [setB, setB_eq r n b]
theorem blk?_setB {l : List (Option LB)} {n : Nat} {b : LB} (m : Nat) (h : n < l.length) : blk? (setB l n b) m = if m = n then some b else blk? l m := by
  rw [blk?_eq, setB_eq, blk?_eq, List.getElem?_set]
  by_cases e : n = m
  · subst e; simp [h]
  · simp [e, Ne.symm e]
theorem lookG_mem : ∀ {G : Glob} {g : Nat} {cs : List Value}, lookG G g = some cs → (g, cs) ∈ G
  | [], _, _, h => by simp [lookG] at h
  | (k, c) :: r, g, cs, h => by
    simp only [lookG] at h
    cases e : Nat.beq k g with
    | true => simp [e] at h; have := Nat.eq_of_beq_eq_true e; subst this; subst h; simp
    | false => simp [e] at h; exact List.mem_cons_of_mem _ (lookG_mem h)

/-- How abstract memory stands for memory. -/
structure MRel (G : Glob) (base : Nat) (ρ : Nat → Nat) (bl : List (Option LB)) (w : World) : Prop where
  gl : ∀ g cs, (g, cs) ∈ G → ∀ o v, cs[o]? = some v → w.cell? ⟨g, o, none⟩ = some v
  glt : ∀ g cs, (g, cs) ∈ G → g < base
  bk : ∀ i b, blk? bl i = some b → ∃ xs : List Value, w.heap[ρ i]? = some (.cells xs.toArray b.elem (0, 0)) ∧ SV.rls ρ b.cells xs ∧ base ≤ ρ i
  inj : ∀ i j b c, blk? bl i = some b → blk? bl j = some c → ρ i = ρ j → i = j
  sz : base ≤ w.heap.size

theorem MRel.lt {G : Glob} {base : Nat} {ρ : Nat → Nat} {bl : List (Option LB)} {w : World} (M : MRel G base ρ bl w) {i : Nat} {b : LB} (h : blk? bl i = some b) : ρ i < w.heap.size := by
  obtain ⟨xs, hx, _⟩ := M.bk i b h
  rcases Nat.lt_or_ge (ρ i) w.heap.size with h' | h'
  · exact h'
  · simp [Array.getElem?_eq_none h'] at hx

/-- What leaves all that was there alone. -/
theorem MRel.below {G : Glob} {base : Nat} {ρ : Nat → Nat} {bl : List (Option LB)} {w w' : World} (M : MRel G base ρ bl w) (B : Below w.heap.size w w') : MRel G base ρ bl w' where
  gl g cs hg o v hv := by
    have := M.gl g cs hg o v hv
    rw [B.cell (p := ⟨g, o, none⟩) (World.block_lt_of_cell? _ _ this)]; exact this
  glt := M.glt
  bk i b h := by
    obtain ⟨xs, hx, hr, hb⟩ := M.bk i b h
    exact ⟨xs, by rw [B.block _ (M.lt h)]; exact hx, hr, hb⟩
  inj := M.inj
  sz := Nat.le_trans M.sz B.size

theorem MRel.drop {G : Glob} {base : Nat} {ρ : Nat → Nat} {bl bl' : List (Option LB)} {w : World} (M : MRel G base ρ bl w) (h : ∀ i b, blk? bl' i = some b → blk? bl i = some b) : MRel G base ρ bl' w where
  gl := M.gl
  glt := M.glt
  bk i b hb := M.bk i b (h i b hb)
  inj i j b c hi hj := M.inj i j b c (h _ _ hi) (h _ _ hj)
  sz := M.sz

def freeB (k : Nat) : List (Option LB) → Bool
  | [] => true
  | none :: r => freeB k r
  | some b :: r => SV.freeL k b.cells && freeB k r
theorem freeB_at : ∀ {k : Nat} {bl : List (Option LB)} {i : Nat} {b : LB}, freeB k bl = true → blk? bl i = some b → SV.freeL k b.cells = true
  | _, [], _, _, _, h => by simp [blk?] at h
  | k, x :: r, 0, b, hf, h => by simp only [blk?] at h; subst h; simp only [freeB, Bool.and_eq_true] at hf; exact hf.1
  | k, none :: r, n + 1, b, hf, h => by simp only [blk?] at h; simp only [freeB] at hf; exact freeB_at hf h
  | k, some c :: r, n + 1, b, hf, h => by simp only [blk?] at h; simp only [freeB, Bool.and_eq_true] at hf; exact freeB_at hf.2 h

theorem alloc_below (w : World) (o : Obj) : Below w.heap.size w (w.alloc o) := (Below.refl _ _).alloc (Nat.le_refl _) o

theorem MRel.new {G : Glob} {base : Nat} {ρ : Nat → Nat} {bl : List (Option LB)} {w : World} (M : MRel G base ρ bl w) {k : Nat} {cs : List SV} {xs : List Value} {e : TypeId}
    (hk : k < bl.length) (hn : blk? bl k = none) (hf : freeB k bl = true) (hc : SV.rls ρ cs xs) (hcf : SV.freeL k cs = true) :
    MRel G base (upd ρ k w.heap.size) (setB bl k ⟨cs, e⟩) (w.alloc (.cells xs.toArray e)) where
  gl := (M.below (alloc_below w _)).gl
  glt := M.glt
  bk i b h := by
    rw [blk?_setB i hk] at h
    by_cases e' : i = k
    · subst e'
      simp only [if_true, Option.some.injEq] at h
      subst h
      exact ⟨xs, by rw [upd_same]; show (w.heap.push _)[w.heap.size]? = _; simp, rls_upd ρ i _ cs xs hcf hc, by rw [upd_same]; exact M.sz⟩
    · simp only [e', if_false] at h
      obtain ⟨ys, hy, hr, hb⟩ := M.bk i b h
      refine ⟨ys, ?_, rls_upd ρ k _ _ _ (freeB_at hf h) hr, by rw [upd_ne ρ e']; exact hb⟩
      rw [upd_ne ρ e', (alloc_below w _).block _ (M.lt h)]
      exact hy
  inj i j b c hi hj hij := by
    rw [blk?_setB _ hk] at hi hj
    by_cases ei : i = k <;> by_cases ej : j = k
    · rw [ei, ej]
    · simp only [ej, if_false] at hj
      subst ei
      rw [upd_same, upd_ne ρ ej] at hij
      have := M.lt hj
      omega
    · simp only [ei, if_false] at hi
      subst ej
      rw [upd_same, upd_ne ρ ei] at hij
      have := M.lt hi
      omega
    · simp only [ei, if_false] at hi
      simp only [ej, if_false] at hj
      rw [upd_ne ρ ei, upd_ne ρ ej] at hij
      exact M.inj i j b c hi hj hij
  sz := by simp; have := M.sz; omega

theorem setRow_below (w : World) (g base : Nat) (c : Array Value) (h : base ≤ g) : Below base w (w.setRow g c) := by
  refine ⟨rfl, rfl, rfl, ?_, ?_⟩
  · simp [World.setRow]
  · intro k hk
    simp only [World.setRow, Array.getElem?_modify]
    rw [if_neg (by omega)]

theorem MRel.put {G : Glob} {base : Nat} {ρ : Nat → Nat} {bl : List (Option LB)} {w : World} (M : MRel G base ρ bl w) {i o : Nat} {b : LB} {cs : List SV} {xs ys : List Value}
    (hb : blk? bl i = some b) (hx : w.heap[ρ i]? = some (.cells xs.toArray b.elem (0, 0))) (hr : SV.rls ρ b.cells xs) (hc : SV.rls ρ cs ys) :
    MRel G base ρ (setB bl i ⟨splice b.cells o cs, b.elem⟩) (w.setRow (ρ i) (xs.take o ++ (ys ++ xs.drop (o + ys.length))).toArray) := by
  have hbase := (M.bk i b hb).choose_spec.2.2
  have B := setRow_below w (ρ i) base (xs.take o ++ (ys ++ xs.drop (o + ys.length))).toArray hbase
  have hk : i < bl.length := by
    rcases Nat.lt_or_ge i bl.length with h' | h'
    · exact h'
    · rw [blk?_eq, List.getElem?_eq_none h'] at hb; simp at hb
  refine ⟨?_, M.glt, ?_, ?_, ?_⟩
  · intro g c hg p v hv
    rw [B.cell (p := ⟨g, p, none⟩) (M.glt g c hg)]
    exact M.gl g c hg p v hv
  · intro j c h
    rw [blk?_setB j hk] at h
    by_cases e : j = i
    · subst e
      simp only [if_true, Option.some.injEq] at h
      subst h
      refine ⟨_, ?_, rls_splice o hr hc, hbase⟩
      simp [World.setRow, Array.getElem?_modify, hx]
    · simp only [e, if_false] at h
      obtain ⟨zs, hz, hrz, hbz⟩ := M.bk j c h
      refine ⟨zs, ?_, hrz, hbz⟩
      have hne : ρ i ≠ ρ j := fun hij => e (M.inj j i c b h hb hij.symm)
      simp only [World.setRow, Array.getElem?_modify]
      rw [if_neg hne]
      exact hz
  · intro j k c d hj hk' hjk
    rw [blk?_setB _ hk] at hj hk'
    refine M.inj j k (if j = i then b else c) (if k = i then b else d) ?_ ?_ hjk
    · by_cases e : j = i
      · subst e; simpa using hb
      · simpa [e] using hj
    · by_cases e : k = i
      · subst e; simpa using hb
      · simpa [e] using hk'
  · simp [World.setRow]; exact M.sz

/-- where a fresh address or a slice's element lies -/
theorem add_eq (b o n : Nat) : (⟨b, o, none⟩ : Addr).add n = ⟨b, o + n, none⟩ := Addr.add_lit b o n

/-! loads -/
def agK (P : Program) (t : TypeId) : Option Bool := match P.underlying t with
  | some (.struct _) => some true
  | some (.array _ _) => some true
  | some _ => some false
  | none => none
def szOf (P : Program) (t : TypeId) : Option Nat := match P.info? t with
  | some i => some i.size
  | none => none
def loadL (cells : List SV) (o : Nat) (ag : Bool) (sz : Nat) : Option SV :=
  bif ag then (bif Nat.ble (o + sz) cells.length then some (mkAgg ((cells.drop o).take sz)) else none) else nth? cells o
def loadE (P : Program) (G : Glob) (bl : List (Option LB)) (t : TypeId) (s : SV) : Option SV :=
  match agK P t with
  | none => none
  | some ag => match szOf P t with
    | none => none
    | some sz => match s with
      | .ptr i o => match blk? bl i with
        | some b => loadL b.cells o ag sz
        | none => none
      | .glob g o => match lookG G g with
        | some cs => loadL (cs.map .val) o ag sz
        | none => none
      | _ => none

theorem run_isAgg {P : Program} {t : TypeId} {ag : Bool} (h : agK P t = some ag) (w : World) : (isAgg t).run P w = .ok ag w := by
  unfold agK at h
  cases hu : P.underlying t with
  | none => simp [hu] at h
  | some d =>
    simp only [hu] at h
    simp only [isAgg, Sem.run_bind, run_underlying hu, Result.andThen_ok]
    cases d <;> simp_all
theorem run_sizeOf {P : Program} {t : TypeId} {sz : Nat} (h : szOf P t = some sz) (w : World) : (sizeOf t).run P w = .ok sz w := by
  unfold szOf at h
  cases hu : P.info? t with
  | none => simp [hu] at h
  | some i => simp only [hu, Option.some.injEq] at h; subst h; simp [sizeOf, typeInfo, hu]

theorem loadL_run {P : Program} {ρ : Nat → Nat} {cells : List SV} {xs : List Value} {o : Nat} {ag : Bool} {sz : Nat} {t : TypeId} {s : SV} {w : World} {r : Nat}
    (hr : SV.rls ρ cells xs) (hw : ∀ j v, xs[j]? = some v → w.cell? ⟨r, j, none⟩ = some v) (ha : agK P t = some ag) (hs : szOf P t = some sz) (h : loadL cells o ag sz = some s) :
    ∃ x, (loadVar t ⟨r, o, none⟩).run P w = .ok x w ∧ SV.rl ρ s x := by
  unfold loadL at h
  cases ag with
  | true =>
    simp only [cond_true] at h
    cases hb : Nat.ble (o + sz) cells.length with
    | false => simp [hb] at h
    | true =>
      simp only [hb, cond_true, Option.some.injEq] at h
      subst h
      have hle := Nat.le_of_ble_eq_true hb
      have hl := rls_len hr
      refine ⟨.agg ((xs.drop o).take sz).toArray, ?_, mkAgg_rl (rls_take _ (rls_drop _ hr))⟩
      have hlen : ((xs.drop o).take sz).length = sz := by simp; omega
      have := run_loadCells_list (P := P) w ⟨r, o, none⟩ ((xs.drop o).take sz) (by
        intro j v hv
        rw [add_eq]
        apply hw
        rw [List.getElem?_take] at hv
        split at hv
        · rw [List.getElem?_drop] at hv; exact hv
        · simp at hv)
      rw [hlen] at this
      simp [loadVar, run_isAgg ha, run_sizeOf hs, this]
  | false =>
    simp only [cond_false] at h
    obtain ⟨x, hx, hxr⟩ := rls_nth? hr h
    refine ⟨x, ?_, hxr⟩
    simp [loadVar, run_isAgg ha, hw o x hx]

theorem loadE_run {P : Program} {G : Glob} {base : Nat} {ρ : Nat → Nat} {bl : List (Option LB)} {w : World} {t : TypeId} {s v : SV} {x : Value} (M : MRel G base ρ bl w)
    (h : loadE P G bl t s = some v) (hs : SV.rl ρ s x) : ∃ a y, x = .pointer (some a) ∧ (loadVar t a).run P w = .ok y w ∧ SV.rl ρ v y := by
  unfold loadE at h
  split at h
  · simp at h
  · rename_i ag ha
    split at h
    · simp at h
    · rename_i sz hz
      split at h
      · rename_i i o
        split at h
        · rename_i b hb
          obtain ⟨xs, hx, hr, _⟩ := M.bk i b hb
          simp only [SV.rl] at hs
          obtain ⟨y, hy, hyr⟩ := loadL_run (P := P) (w := w) (r := ρ i) hr (by intro j v hv; simp [World.cell?, hx, hv]) ha hz h
          exact ⟨_, y, hs, hy, hyr⟩
        · simp at h
      · rename_i g o
        split at h
        · rename_i cs hg
          simp only [SV.rl] at hs
          obtain ⟨y, hy, hyr⟩ := loadL_run (P := P) (w := w) (r := g) (rls_vals (ρ := ρ) cs) (by intro j v hv; exact M.gl g cs (lookG_mem hg) j v hv) ha hz h
          exact ⟨_, y, hs, hy, hyr⟩
        · simp at h
      · simp at h

/-! building -/
def fillL (place : Nat → Option (Nat × Nat)) (cells : List SV) : List (Nat × SV) → Option (List SV)
  | [] => some cells
  | (i, v) :: rest => match place i with
    | none => none
    | some (off, size) => match cellsOf v with
      | none => none
      | some cs => bif Nat.beq cs.length size && Nat.ble (off + cs.length) cells.length then fillL place (splice cells off cs) rest else none

theorem foldl_splice : ∀ (cs : List Value) (off n : Nat) (xs : Array Value), off + n + cs.length ≤ xs.size →
    ((cs.zipIdx n).foldl (fun a (p : Value × Nat) => a.setIfInBounds (off + p.2) p.1) xs).toList = xs.toList.take (off + n) ++ (cs ++ xs.toList.drop (off + n + cs.length))
  | [], off, n, xs, _ => by simp
  | c :: cs, off, n, xs, h => by
    simp only [List.length_cons] at h
    rw [List.zipIdx_cons, List.foldl_cons, foldl_splice cs off (n + 1) _ (by simp; omega)]
    have hlt : off + n < xs.size := by omega
    rw [Array.toList_setIfInBounds]
    apply List.ext_getElem?
    intro k
    simp only [List.getElem?_append, List.length_take, List.length_set, List.getElem?_take, List.getElem?_set, List.getElem?_drop, List.length_cons, List.getElem?_cons, Array.length_toList]
    by_cases h1 : k < off + n
    · simp [show k < min (off + (n + 1)) xs.size by omega, show k < off + (n + 1) by omega, show off + n ≠ k by omega, show k < min (off + n) xs.size by omega, h1]
    · by_cases h2 : k = off + n
      · subst h2
        simp [show off + n < min (off + (n + 1)) xs.size by omega, show ¬ off + n < min (off + n) xs.size by omega, hlt, show off + n - min (off + n) xs.size = 0 by omega, show off + n < off + (n + 1) by omega]
      · simp only [show ¬ k < min (off + (n + 1)) xs.size by omega, show ¬ k < min (off + n) xs.size by omega, if_false]
        rw [show min (off + (n + 1)) xs.size = off + (n + 1) by omega, show min (off + n) xs.size = off + n by omega]
        by_cases h3 : k - (off + (n + 1)) < cs.length
        · simp [h3, show k - (off + n) < cs.length + 1 by omega, show k - (off + n) ≠ 0 by omega, show k - (off + n) - 1 = k - (off + (n + 1)) by omega]
        · simp only [h3, if_false, show ¬ k - (off + n) < cs.length + 1 by omega]
          rw [if_neg (by omega)]
          congr 1
          omega

inductive Parts (ρ : Nat → Nat) : List (Nat × SV) → List (Nat × Value) → Prop
  | nil : Parts ρ [] []
  | cons {i : Nat} {s : SV} {x : Value} {l : List (Nat × SV)} {m : List (Nat × Value)} (h : SV.rl ρ s x) (t : Parts ρ l m) : Parts ρ ((i, s) :: l) ((i, x) :: m)

theorem fill_run {ρ : Nat → Nat} {place : Nat → Option (Nat × Nat)} : ∀ {parts : List (Nat × SV)} {ps : List (Nat × Value)} {cells : List SV} {xs : List Value} {r : List SV},
    Parts ρ parts ps → SV.rls ρ cells xs → fillL place cells parts = some r →
    ∃ ys, Instr.fill place xs.toArray ps = some ys ∧ SV.rls ρ r ys.toList
  | [], _, cells, xs, r, .nil, hc, h => by
    simp only [fillL, Option.some.injEq] at h; subst h; exact ⟨xs.toArray, rfl, by simpa using hc⟩
  | (i, v) :: rest, _, cells, xs, r, .cons (x := x) hv ht, hc, h => by
    simp only [fillL] at h
    split at h
    · simp at h
    · rename_i off size hpl
      split at h
      · simp at h
      · rename_i cs hcs
        have hcr := cellsOf_rl hcs hv
        have hl := rls_len hcr
        have hl2 := rls_len hc
        cases hb : Nat.beq cs.length size && Nat.ble (off + cs.length) cells.length with
        | false => simp [hb] at h
        | true =>
          simp only [hb, cond_true] at h
          simp only [Bool.and_eq_true] at hb
          have h1 := Nat.eq_of_beq_eq_true hb.1
          have h2 := Nat.le_of_ble_eq_true hb.2
          have hsz : x.cells.size = size := by rw [← h1, hl]; simp
          have hz : (x.cells.zipIdx.foldl (fun cs (c, j) => cs.setIfInBounds (off + j) c) xs.toArray) = (xs.take off ++ (x.cells.toList ++ xs.drop (off + x.cells.toList.length))).toArray := by
            apply Array.ext'
            have := foldl_splice x.cells.toList off 0 xs.toArray (by simp; simp at hl; omega)
            simp only [Nat.add_zero] at this
            rw [← Array.foldl_toList, Array.toList_zipIdx]
            simpa using this
          obtain ⟨ys, hy, hyr⟩ := fill_run ht (rls_splice off hc hcr) h
          refine ⟨ys, ?_, hyr⟩
          simp only [Instr.fill, hpl]
          rw [if_neg (by simp; simp at hl; omega), hz]
          exact hy

def placesOf (P : Program) (fields : Array Field) : Option (List (Nat × Nat)) := go fields.toList
where go : List Field → Option (List (Nat × Nat))
  | [] => some []
  | f :: r => match szOf P f.type with
    | some s => match go r with
      | some l => some ((f.offset, s) :: l)
      | none => none
    | none => none
def lnth? {α : Type} : List α → Nat → Option α
  | [], _ => none
  | x :: _, 0 => some x
  | _ :: r, n + 1 => lnth? r n
theorem lnth?_eq {α : Type} : ∀ (l : List α) (n : Nat), lnth? l n = l[n]?
  | [], _ => by simp [lnth?]
  | x :: _, 0 => by simp [lnth?]
  | _ :: r, n + 1 => by simp [lnth?, lnth?_eq r n]
def zeroOf (P : Program) (t : TypeId) : Option (List Value) := match P.info? t with
  | some i => match i.zero with
    | some z => some z.cells.toList
    | none => none
  | none => none
def buildE (P : Program) (t : TypeId) (parts : List (Nat × SV)) : Option SV :=
  match zeroOf P t with
  | none => none
  | some z => match P.underlying t with
    | some (.struct fields) => match placesOf P fields with
      | some pl => match fillL (lnth? pl) (z.map .val) parts with
        | some l => some (mkAgg l)
        | none => none
      | none => none
    | some (.array _ e) => match szOf P e with
      | some s => match fillL (fun i => some (i * s, s)) (z.map .val) parts with
        | some l => some (mkAgg l)
        | none => none
      | none => none
    | _ => none

theorem run_zeroValue {P : Program} {t : TypeId} {z : List Value} (h : zeroOf P t = some z) (w : World) : ∃ v, (zeroValue t).run P w = .ok v w ∧ v.cells.toList = z := by
  unfold zeroOf at h
  cases hu : P.info? t with
  | none => simp [hu] at h
  | some i =>
    simp only [hu] at h
    cases hz : i.zero with
    | none => simp [hz] at h
    | some v => simp only [hz, Option.some.injEq] at h; exact ⟨v, by simp [zeroValue, typeInfo, hu, hz], h⟩

theorem mapM_places {P : Program} {w : World} : ∀ {fs : List Field} {l : List (Nat × Nat)}, placesOf.go P fs = some l →
    (fs.mapM (m := Sem) fun f => do pure (f.offset, ← sizeOf f.type)).run P w = .ok l w
  | [], l, h => by simp only [placesOf.go, Option.some.injEq] at h; subst h; simp
  | f :: r, l, h => by
    simp only [placesOf.go] at h
    split at h
    · rename_i s hs
      split at h
      · rename_i l' hl
        simp only [Option.some.injEq] at h
        subst h
        have ih := mapM_places (w := w) hl
        simp only [List.mapM_cons, Sem.run_bind, run_sizeOf hs, Result.andThen_ok, Sem.run_pure, ih]
      · simp at h
    · simp at h

theorem buildE_run {P : Program} {ρ : Nat → Nat} {t : TypeId} {parts : List (Nat × SV)} {ps : List (Nat × Value)} {v : SV} (h : buildE P t parts = some v)
    (hp : Parts ρ parts ps) (w : World) :
    ∃ x, (Instr.build t ps.toArray).run P w = .ok x w ∧ SV.rl ρ v x := by
  unfold buildE at h
  split at h
  · simp at h
  · rename_i z hz
    obtain ⟨zv, hzr, hzc⟩ := run_zeroValue hz w
    have hzr2 : SV.rls ρ (z.map .val) z := rls_vals z
    have hza : zv.cells = z.toArray := by apply Array.ext'; simpa using hzc
    split at h
    · rename_i fields hu
      split at h
      · rename_i pl hpl
        split at h
        · rename_i l hl
          simp only [Option.some.injEq] at h
          subst h
          obtain ⟨ys, hy, hyr⟩ := fill_run hp hzr2 hl
          refine ⟨.agg ys, ?_, by simpa using mkAgg_rl (ρ := ρ) hyr⟩
          have hm := mapM_places (w := w) (P := P) (fs := fields.toList) (l := pl) hpl
          have hm' : (fields.mapM (m := Sem) fun f => do pure (f.offset, ← sizeOf f.type)).run P w = .ok pl.toArray w := by
            rw [← Array.toArray_toList (xs := fields), List.mapM_toArray, Sem.run_map, hm]; rfl
          have hpl' : (fun i => pl.toArray[i]?) = lnth? pl := by funext i; rw [lnth?_eq]; simp
          simp only [Instr.build, Sem.run_bind, hzr, Result.andThen_ok, run_underlying hu, hm']
          rw [hpl', hza]
          simp only [hy, Sem.run_pure]
        · simp at h
      · simp at h
    · rename_i n e hu
      split at h
      · rename_i s hs
        split at h
        · rename_i l hl
          simp only [Option.some.injEq] at h
          subst h
          obtain ⟨ys, hy, hyr⟩ := fill_run hp hzr2 hl
          refine ⟨.agg ys, ?_, by simpa using mkAgg_rl (ρ := ρ) hyr⟩
          simp only [Instr.build, Sem.run_bind, hzr, Result.andThen_ok, run_underlying hu, run_sizeOf hs]
          rw [hza]
          simp only [hy, Sem.run_pure]
        · simp at h
      · simp at h
    · simp at h

end Go.Wk
