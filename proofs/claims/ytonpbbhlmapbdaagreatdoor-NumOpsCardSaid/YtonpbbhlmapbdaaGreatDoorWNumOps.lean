/- NumOps: over what came in. Conditions: none. -/
import Derived.Test.YtonpbbhlmapbdaaGreatDoorO1
import Derived.Test.YtonpbbhlmapbdaaGreatDoorV9
set_option linter.unusedVariables false
set_option linter.unusedSimpArgs false
namespace Go.Proofs.YtonpbbhlmapbdaaGreatDoor.V
open Go Go.Wk Go.RowKit Go.ChangeShapes Go.WideShapes
theorem bytes_flats {H : Type} {P : Program} {ts : List TypeId} {ds : List (DataW H)} (h : (DataW.weightsEach P ts ds).all (· ≤ reachBytes) = true) {j : Nat} {t e : TypeId} {d : DataW H} {len : Nat} (ht : ts[j]? = some t) (hd : ds[j]? = some d) (hu : P.underlying t = some (.slice e)) (k : Nat) (hb : P.bytesOf e = k)
    (hl : len = 0 ∨ ∃ el sp, d = .slice el sp ∧ el.length = len) : len * k ≤ 140737488351232 := by
  rcases hl with rfl | ⟨el, sp, rfl, rfl⟩
  · omega
  · have h1 := sized_slice h ht hd hu
    rw [hb, Nat.add_mul] at h1
    have h3 : reachBytes ≤ 140737488351232 := by decide
    omega
theorem nil_flats {H : Type} {enc : TypeId × Value → H} {P : Program} {W : World} {base : Nat} {spare : Nat → Bool} {held : Bool} {t e : TypeId} {a : Option Addr} {len cap : Nat} {d : DataW H} {p : List MemPlace} (ht : P.underlying t = some (.slice e))
    (h : DataW.Trod enc P W base spare held t (.slice a len cap) d p) : a = none → cap = 0 := by
  obtain ⟨fuel, hf⟩ := h
  rcases Go.Deep.open_slice ht hf with ⟨hcs, _⟩ | ⟨a', len', cap', m, n, D, Pl, hcs, _⟩
  · simp [Value.cells] at hcs
    exact fun _ => hcs.2.2
  · simp [Value.cells] at hcs
    rintro rfl
    simp at hcs
def intOfL' : List Lit → Int
  | [.int _ n] => n
  | _ => 0
theorem raw5'' {a0 : Bool} {a1 a2 a3 a4 : Int} (h1 : I64 a1) (h2 : I64 a2) (h3 : U64 a3) (h4 : U64 a4) : Raw (a0, a1, a2, a3, a4) := ⟨h1, h2, h3, h4⟩
theorem thr_of' {W : World} {a : Option Addr} {len : Nat} {R : Nat → List Lit} (h : FlatRow W a len [.i .i64] R) (hb : len ≤ 140737488351232) : Thr W a ((List.range len).map fun i => intOfL' (R i)) where
  big := by simpa using hb
  at_ i hi := by
    have hi' : i < len := by simpa using hi
    obtain ⟨b, off, e, hl, hF, hc⟩ := h.at_ i hi'
    obtain ⟨x1, r1, e1, w1, F1⟩ := AllF_i hF
    have e5 := AllF_nil F1
    subst e5
    rw [e1] at hc
    simp only [List.getElem_map, List.getElem_range, e1, intOfL']
    refine ⟨b, off, e, hl, ?_⟩
    have := hc 0 (by simp)
    simpa [Lit.value] using this
theorem numOps.walk (op : Int) (a0 : Bool) (a1 a2 a3 a4 : Int) (b0 : Bool) (b1 b2 b3 b4 : Int) (ta : Option Addr) (tl tc : Nat) (Z : Nat → List Lit) (W : World)
    (h0 : (Lit.int .i64 op).wf = true) (h1 : (Lit.int .i64 a1).wf = true) (h2 : (Lit.int .i64 a2).wf = true) (h3 : (Lit.int .u64 a3).wf = true) (h4 : (Lit.int .u64 a4).wf = true)
    (k1 : (Lit.int .i64 b1).wf = true) (k2 : (Lit.int .i64 b2).wf = true) (k3 : (Lit.int .u64 b3).wf = true) (k4 : (Lit.int .u64 b4).wf = true) (ht : FlatRow W ta tl [.i .i64] Z) (htb : tl * 8 ≤ 140737488351232) (hn : ta = none → tc = 0) (hG : GOK G W) :
    Calls Tryz.prog 6 #[.int .i64 op, .agg #[.bool a0, .int .i64 a1, .int .i64 a2, .int .u64 a3, .int .u64 a4], .agg #[.bool b0, .int .i64 b1, .int .i64 b2, .int .u64 b3, .int .u64 b4], .slice ta tl tc] W fun e w' => e = .returned (.bool true) ∧ Below W.heap.size W w' := by
  have := ops_walk hG op (x := (a0, a1, a2, a3, a4)) (y := (b0, b1, b2, b3, b4)) (raw5'' (i64_wf h1) (i64_wf h2) (u64_wf h3) (u64_wf h4)) (raw5'' (i64_wf k1) (i64_wf k2) (u64_wf k3) (u64_wf k4)) (ta := ta) (tc := tc) (thr_of' ht (by omega)) hn (by simpa using htb)
  simpa only [List.length_map, List.length_range] using this
end Go.Proofs.YtonpbbhlmapbdaaGreatDoor.V
