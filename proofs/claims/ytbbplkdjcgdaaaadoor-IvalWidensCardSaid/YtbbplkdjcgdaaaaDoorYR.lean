/- Slices of structs of plain cells, and of numbers, that came in: opened. Conditions: none. -/
import Derived.Test.YtbbplkdjcgdaaaaDoorR
import Derived.Deep.Slices
set_option linter.unusedVariables false
set_option linter.unusedSimpArgs false
namespace Go.Proofs.YtbbplkdjcgdaaaaDoor.V
open Go Go.Wk Go.ChangeShapes Go.WideShapes

/-- a slice of elements of plain cells; R: an element's values -/
structure FlatRow (W : World) (a : Option Addr) (len : Nat) (ks : List CK) (R : Nat → List Lit) : Prop where
  big : len ≤ maxLen
  at_ : ∀ i, i < len → ∃ b off, a = some ⟨b, off, none⟩ ∧ b < W.heap.size ∧ AllF ks (R i) ∧ ∀ j, j < ks.length → W.cell? ⟨b, off + i * ks.length + j, none⟩ = ((R i).map Lit.value)[j]?
theorem cell_lt {W : World} {b o : Nat} {v : Value} (h : W.cell? ⟨b, o, none⟩ = some v) : b < W.heap.size := by
  unfold World.cell? at h
  split at h
  · rename_i h'
    exact (Array.getElem?_eq_some_iff.1 h').1
  · simp at h
theorem AllF_len : ∀ {ks : List CK} {ls : List Lit}, AllF ks ls → ls.length = ks.length
  | [], [], _ => rfl
  | _ :: _, _ :: _, h => by simp only [AllF] at h; simp [AllF_len h.2]
  | [], _ :: _, h => by simp [AllF] at h
  | _ :: _, [], h => by simp [AllF] at h
theorem open_flats {H : Type} {enc : TypeId × Value → H} {P : Program} {W : World} {base : Nat} {spare : Nat → Bool} {held : Bool} {t e : TypeId} {ks : List CK} {a : Option Addr} {len cap : Nat} {d : DataW H} {p : List MemPlace} (ht : P.underlying t = some (.slice e)) (hk : kindsOf P 9 e = some ks) (hc : P.cellsOf e = ks.length) (hp : 0 < ks.length)
    (h : DataW.Trod enc P W base spare held t (.slice a len cap) d p) : ∃ R, FlatRow W a len ks R ∧ (len = 0 ∨ ∃ el sp, d = .slice el sp ∧ el.length = len) := by
  obtain ⟨fuel, hf⟩ := h
  rcases Go.Deep.open_slice ht hf with ⟨hcs, _⟩ | ⟨a', len', cap', m, n, D, Pl, hcs, hb, hl, hm, hmm, hx, hi⟩
  · simp [Value.cells] at hcs
    obtain ⟨rfl, rfl, rfl⟩ := hcs
    exact ⟨fun _ => [], ⟨Nat.zero_le _, fun i hi => absurd hi (by omega)⟩, .inl rfl⟩
  · simp [Value.cells] at hcs
    obtain ⟨rfl, rfl, rfl⟩ := hcs
    have hlm : len ≤ m := by rw [hmm]; split <;> omega
    refine ⟨fun i => leaves (D i), ⟨Nat.le_trans hl hm, fun i hil => ?_⟩, .inr ⟨_, _, congrArg Prod.fst hx, by simp⟩⟩
    obtain ⟨b, off, spot⟩ := a'
    have key : ∀ i, i < len → (∀ j, j < ks.length → W.cell? (((⟨b, off, spot⟩ : Addr).add (i * ks.length)).add j) = ((leaves (D i)).map Lit.value)[j]?) ∧ AllF ks (leaves (D i)) := by
      intro i hil
      obtain ⟨cs', h1, h2⟩ := hi i (by omega)
      obtain ⟨e1, e2, _⟩ := trod_flat 9 e ks hk n cs' _ h2
      obtain ⟨_, _, h3⟩ := World.cells?_some h1
      rw [hc] at h3
      exact ⟨fun j hj => by rw [h3 j hj, e1], e2⟩
    have hspot : spot = none := by
      obtain ⟨k0, k1⟩ := key 0 (by omega)
      have hv : ∃ v, ((leaves (D 0)).map Lit.value)[0]? = some v := by
        have := AllF_len k1
        rw [List.getElem?_map, List.getElem?_eq_getElem (by omega)]
        exact ⟨_, rfl⟩
      obtain ⟨v, hv⟩ := hv
      have := (k0 0 hp).trans hv
      simpa [Addr.add] using World.cell?_spot this
    subst hspot
    obtain ⟨k0, k1⟩ := key i hil
    refine ⟨b, off, rfl, ?_, k1, fun j hj => ?_⟩
    · have hv : ∃ v, ((leaves (D i)).map Lit.value)[0]? = some v := by
        have := AllF_len k1
        rw [List.getElem?_map, List.getElem?_eq_getElem (by omega)]
        exact ⟨_, rfl⟩
      obtain ⟨v, hv⟩ := hv
      have := (k0 0 hp).trans hv
      rw [Go.WideShapes.add_plain, Go.WideShapes.add_plain] at this
      exact cell_lt this
    · have := k0 j hj
      rwa [Go.WideShapes.add_plain, Go.WideShapes.add_plain] at this
theorem small_flats {H : Type} {P : Program} {ts : List TypeId} {ds : List (DataW H)} (h : (DataW.weightsEach P ts ds).all (· ≤ reachBytes) = true) {j : Nat} {t e : TypeId} {d : DataW H} {len : Nat} (ht : ts[j]? = some t) (hd : ds[j]? = some d) (hu : P.underlying t = some (.slice e)) (hb : 0 < P.bytesOf e)
    (hl : len = 0 ∨ ∃ el sp, d = .slice el sp ∧ el.length = len) : len ≤ 140737488351232 := by
  rcases hl with rfl | ⟨el, sp, rfl, rfl⟩
  · omega
  · have h1 := sized_slice h ht hd hu
    have h2 : (el.length + sp.length) * 1 ≤ (el.length + sp.length) * P.bytesOf e := Nat.mul_le_mul_left _ hb
    have h3 : reachBytes ≤ 140737488351232 := by decide
    omega
end Go.Proofs.YtbbplkdjcgdaaaaDoor.V
