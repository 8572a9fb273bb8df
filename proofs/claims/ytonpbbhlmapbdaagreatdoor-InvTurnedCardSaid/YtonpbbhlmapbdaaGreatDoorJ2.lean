/- A statement of the program by evaluation, inside the kit's walk. Conditions: none. -/
import Derived.Test.YtonpbbhlmapbdaaGreatDoorB
set_option linter.unusedVariables false
set_option linter.unusedSimpArgs false
namespace Go.Proofs.YtonpbbhlmapbdaaGreatDoor.V
open Go Go.Wk Go.RowKit

def pl : SV → Bool
  | .val _ => true
  | .ptr _ _ => true
  | .glob _ _ => true
  | _ => false
def rv (ρ : Nat → Nat) : SV → Value
  | .val v => v
  | .ptr i o => .pointer (some ⟨ρ i, o, none⟩)
  | .glob g o => .pointer (some ⟨g, o, none⟩)
  | _ => undef
theorem rls_of {ρ : Nat → Nat} : ∀ {l : List SV}, l.all pl = true → SV.rls ρ l (l.map (rv ρ))
  | [], _ => by simp [SV.rls]
  | c :: l, hp => by
    simp only [List.all_cons, Bool.and_eq_true] at hp
    simp only [List.map_cons, SV.rls]
    refine ⟨?_, rls_of hp.2⟩
    have h1 := hp.1
    cases c <;> simp_all [pl, SV.rl, rv]
theorem piece {P : Program} {G : Glob} {T : Tab} (C : Cx P G) (hT : TabOK P G T) {d : Nat} {c : Code} {st r : St} {Q : Exit → Act → World → Prop} {a : Act} {w : World} {base : Nat} {ρ : Nat → Nat}
    (h : ex P G T { merge := true, glue := true } d c st (fun (e : Xt) (st' : St) => some (e, st')) = some (Xt.nrm, r)) (S : SRel G base ρ st a [] w)
    (hQ : ∀ ρ' a' w', SRel G base ρ' r a' [] w' → Below base w w' → Q .normal a' w') : c.wp P Q a w := by
  refine ex_sound C.mixed C.names hT { merge := true, glue := true } d c st _ (Xt.nrm, r) (fun _ => LoopsOK_nil c) h base ρ a [] w Q S ?_
  intro e st' ρ' a' w' hk S' hb
  simp only [Option.some.injEq, Prod.mk.injEq] at hk
  obtain ⟨rfl, rfl⟩ := hk
  exact hQ ρ' a' w' S' hb
/-- blocks of the call's own that hold numbers -/
def blks (bs : List (List Value × TypeId)) : List (Option LB) := bs.map fun b => some ⟨b.1.map .val, b.2⟩
theorem blks_at : ∀ {bs : List (List Value × TypeId)} {i : Nat} {b : LB}, blk? (blks bs) i = some b → ∃ c, bs[i]? = some c ∧ b = ⟨c.1.map .val, c.2⟩
  | [], i, b, h => by simp [blks, blk?] at h
  | c :: r, 0, b, h => by
    simp only [blks, List.map_cons, blk?, Option.some.injEq] at h
    exact ⟨c, rfl, h.symm⟩
  | c :: r, i + 1, b, h => by
    have : blk? (blks r) i = some b := h
    obtain ⟨c', h1, h2⟩ := blks_at this
    exact ⟨c', by simpa using h1, h2⟩
theorem rel_of {G : Glob} {base : Nat} {ρ : Nat → Nat} {l : List SV} {bs : List (List Value × TypeId)} {t : Array Value} {w : World} (ht : t.toList = l.map (rv ρ)) (hp : l.all pl = true) (hG : GOK G w) (hg : ∀ g cs, (g, cs) ∈ G → g < base)
    (hs : base ≤ w.heap.size) (h0 : ∀ i b, bs[i]? = some b → w.heap[ρ i]? = some (.cells b.1.toArray b.2 (0, 0)) ∧ base ≤ ρ i) (hi : ∀ i j, i < bs.length → j < bs.length → ρ i = ρ j → i = j) : SRel G base ρ ⟨l, blks bs, []⟩ ⟨t, []⟩ [] w where
  tm := by rw [ht]; exact rls_of hp
  df := rfl
  svd := by simp [rlss]
  M := {
    gl := hG
    glt := hg
    bk := by
      intro i b h
      obtain ⟨c, h1, rfl⟩ := blks_at h
      exact ⟨c.1, (h0 i c h1).1, rls_vals c.1, (h0 i c h1).2⟩
    inj := by
      intro i j b c h h' e
      obtain ⟨d, h1, _⟩ := blks_at h
      obtain ⟨d', h2, _⟩ := blks_at h'
      exact hi i j (List.getElem?_eq_some_iff.1 h1).1 (List.getElem?_eq_some_iff.1 h2).1 e
    sz := hs }
theorem alloc_row (w : World) (o : Obj) : (w.alloc o).heap[w.heap.size]? = some o := by
  have e : (w.alloc o).heap = w.heap.push o := rfl
  rw [e, Array.getElem?_push]; simp
theorem alloc_lt (w : World) (o : Obj) : w.heap.size < (w.alloc o).heap.size := by
  have e : (w.alloc o).heap = w.heap.push o := rfl
  rw [e]; simp
end Go.Proofs.YtonpbbhlmapbdaaGreatDoor.V
