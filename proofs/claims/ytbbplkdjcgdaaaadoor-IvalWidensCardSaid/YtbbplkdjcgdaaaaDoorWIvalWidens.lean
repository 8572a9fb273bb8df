/- IvalWidens: over what came in. Conditions: none. -/
import Derived.Test.YtbbplkdjcgdaaaaDoorY6
import Derived.Test.YtbbplkdjcgdaaaaDoorYR
set_option linter.unusedVariables false
set_option linter.unusedSimpArgs false
namespace Go.Proofs.YtbbplkdjcgdaaaaDoor.V
open Go Go.Wk Go.RowKit Go.ChangeShapes Go.WideShapes

theorem bytes_flats {H : Type} {P : Program} {ts : List TypeId} {ds : List (DataW H)} (h : (DataW.weightsEach P ts ds).all (· ≤ reachBytes) = true) {j : Nat} {t e : TypeId} {d : DataW H} {len : Nat} (ht : ts[j]? = some t) (hd : ds[j]? = some d) (hu : P.underlying t = some (.slice e)) (k : Nat) (hb : P.bytesOf e = k)
    (hl : len = 0 ∨ ∃ el sp, d = .slice el sp ∧ el.length = len) : len * k ≤ 140737488351232 := by
  rcases hl with rfl | ⟨el, sp, rfl, rfl⟩
  · omega
  · have h1 := sized_slice h ht hd hu
    rw [hb, Nat.add_mul] at h1
    have h3 : reachBytes ≤ 140737488351232 := by decide
    omega
theorem nil_flats {H : Type} {enc : TypeId × Value → H} {P : Program} {W : World} {base : Nat} {spare : Nat → Bool} {held : Bool} {t e : TypeId} {a : Option Addr} {len cap : Nat} {d : DataW H} {p : List MemPlace} (ht : P.underlying t = some (.slice e))
    (h : DataW.Trod enc P W base spare held t (.slice a len cap) d p) : a = none → cap = 0 := by
  obtain ⟨fuel, hf⟩ := h
  rcases Go.Deep.open_slice ht hf with ⟨hcs, _⟩ | ⟨a', len', cap', m, n, D, Pl, hcs, _⟩
  · simp [Value.cells] at hcs
    exact fun _ => hcs.2.2
  · simp [Value.cells] at hcs
    rintro rfl
    simp at hcs
def intOfL' : List Lit → Int
  | [.int _ n] => n
  | _ => 0
theorem thr_of' {W : World} {a : Option Addr} {len : Nat} {R : Nat → List Lit} (h : FlatRow W a len [.i .i64] R) (hb : len ≤ 140737488351232) : Thr W a ((List.range len).map fun i => intOfL' (R i)) where
  big := by simpa using hb
  at_ i hi := by
    have hi' : i < len := by simpa using hi
    obtain ⟨b, off, e, hl, hF, hc⟩ := h.at_ i hi'
    obtain ⟨x1, r1, e1, w1, F1⟩ := AllF_i hF
    have e5 := AllF_nil F1
    subst e5
    rw [e1] at hc
    simp only [List.getElem_map, List.getElem_range, e1, intOfL']
    refine ⟨b, off, e, hl, ?_⟩
    have := hc 0 (by simp)
    simpa [Lit.value] using this
def ivOfL : List Lit → Int × Int
  | [.int _ n, .int _ m] => (n, m)
  | _ => (0, 0)
theorem rowI_of {W : World} {a : Option Addr} {len : Nat} {R : Nat → List Lit} (h : FlatRow W a len [.i .i64, .i .i64] R) (hb : len ≤ 140737488351232) : RowI W a ((List.range len).map fun i => ivOfL (R i)) where
  big := by simpa using hb
  at_ i hi := by
    have hi' : i < len := by simpa using hi
    obtain ⟨b, off, e, hl, hF, hc⟩ := h.at_ i hi'
    obtain ⟨x1, r1, e1, w1, F1⟩ := AllF_i hF
    obtain ⟨x2, r2, e2, w2, F2⟩ := AllF_i F1
    have e5 := AllF_nil F2
    subst e5 e2
    rw [e1] at hc
    simp only [List.getElem_map, List.getElem_range, e1, ivOfL]
    refine ⟨b, off, e, hl, i64_wf w1, i64_wf w2, ?_, ?_⟩
    · have := hc 0 (by simp)
      simpa [Lit.value] using this
    · have := hc 1 (by simp)
      simpa [Lit.value] using this
theorem ivalWidens.walk (a0 a1 : Int) (ta : Option Addr) (tl tc : Nat) (Z : Nat → List Lit) (ra : Option Addr) (rl rc : Nat) (R : Nat → List Lit) (W : World) (h0 : (Lit.int .i64 a0).wf = true) (h1 : (Lit.int .i64 a1).wf = true)
    (ht : FlatRow W ta tl [.i .i64] Z) (htb : tl * 8 ≤ 140737488351232) (hn : ta = none → tc = 0) (hr : FlatRow W ra rl [.i .i64, .i .i64] R) (hrb : rl ≤ 140737488351232) (hG : GOK G W) :
    Calls Tryd.prog 3 #[.agg #[.int .i64 a0, .int .i64 a1], .slice ta tl tc, .slice ra rl rc] W fun e w' => e = .returned (.bool true) ∧ Below W.heap.size W w' := by
  have := widens_walk hG (x := (a0, a1)) (i64_wf h0) (i64_wf h1) (tc := tc) (rc := rc) (thr_of' ht (by omega)) (rowI_of hr hrb) hn (by simpa using htb)
  simpa only [List.length_map, List.length_range] using this
end Go.Proofs.YtbbplkdjcgdaaaaDoor.V
