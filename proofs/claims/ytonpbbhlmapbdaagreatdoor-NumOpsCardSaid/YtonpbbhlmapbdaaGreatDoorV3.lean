/- ival.Widen at given thresholds, as an entry of the table. Conditions: none. -/
import Derived.Test.YtonpbbhlmapbdaaGreatDoorV1A
set_option linter.unusedVariables false
set_option linter.unusedSimpArgs false
namespace Go.Proofs.YtonpbbhlmapbdaaGreatDoor.V
open Go Go.Wk Go.RowKit
noncomputable section
def cV : PS Value where
  dec := fun vs => match vs with
    | x :: r => some (x, r)
    | [] => none
  enc x := [x]
  ok := by
    intro vs p r h
    split at h <;> simp only [Option.some.injEq, Prod.mk.injEq, reduceCtorEq] at h
    obtain ⟨rfl, rfl⟩ := h; rfl
def eqV (x y : Value) : Bool := @decide (x = y) (Classical.propDecidable _)
theorem eqV_self (x : Value) : eqV x x = true := by simp [eqV]
theorem eqV_eq {x y : Value} (h : eqV x y = true) : x = y := by simpa [eqV] using h
def wid (a0 a1 b0 b1 : Int) (zs : List Int) : Int × Int := widenI (a0, a1) (b0, b1) zs
def wid93 (thr : Value) (zs : List Int) : FV := mkF (cP (cA (cP (cI .i64) (cP (cI .i64) cU))) (cP (cA (cP (cI .i64) (cP (cI .i64) cU))) (cP cV cU))) (fun | ((_, (_, ())), ((_, (_, ())), (x, ()))) => eqV x thr)
  (fun | ((a0, (a1, ())), ((b0, (b1, ())), (_, ()))) => .agg #[.int .i64 (wid a0 a1 b0 b1 zs).1, .int .i64 (wid a0 a1 b0 b1 zs).2])
def L_wid (thr : Value) (zs : List Int) : TL := (93, wid93 thr zs) :: L_law_rest
/-- the variables, and a block that came in -/
structure Kept (G' : Glob) (a : Option Addr) (zs : List Int) : Prop where
  cx : Cx P G'
  sub : ∀ x, x ∈ G → x ∈ G'
  thr : ∀ w, GOK G' w → Thr w a zs
theorem Kept.gok {G' : Glob} {a : Option Addr} {zs : List Int} (h : Kept G' a zs) {w : World} (hG : GOK G' w) : GOK G w := fun g cs hg => hG g cs (h.sub _ hg)
theorem L_wid.t {G' : Glob} {a : Option Addr} {cap : Nat} {zs : List Int} (h : Kept G' a zs) : TabOK P G' (tab (L_wid (.slice a zs.length cap) zs)) :=
  TabOK_cons (TabOK_sub h.sub law_rest.t) Tryz.func93 h.cx (by kernel_rfl) (by
    intro vs v w hG hv
    obtain ⟨⟨⟨a0, a1, _⟩, ⟨b0, b1, _⟩, x, _⟩, rfl, h1, rfl⟩ := mkF_inv hv
    have := eqV_eq h1
    subst this
    exact wid_walk (h.gok hG) a0 a1 b0 b1 (h.thr w hG))
/-- of a world where the thresholds lie -/
theorem kept_of {W : World} {a : Option Addr} {zs : List Int} (hG : GOK G W) (hz : Thr W a zs) : ∃ G', Kept G' a zs ∧ GOK G' W := by
  by_cases he : zs = []
  · subst he
    exact ⟨G, ⟨C, fun _ h => h, fun w _ => ⟨hz.big, fun i h => by simp at h⟩⟩, hG⟩
  · have hpos : 0 < zs.length := List.length_pos_iff.2 he
    obtain ⟨b, off, rfl, hl, hc⟩ := hz.at_ 0 hpos
    have hobj : ∃ cs t fr, W.heap[b]? = some (.cells cs t fr) := by
      unfold World.cell? at hc
      split at hc
      · exact ⟨_, _, _, by assumption⟩
      · simp at hc
    obtain ⟨cs, t, fr, hh⟩ := hobj
    have hne : cs.toList ≠ [] := by
      intro e
      have e' : cs = #[] := by cases cs; simp_all
      subst e'
      simp [World.cell?, hh] at hc
    refine ⟨(b, cs.toList) :: G, ⟨⟨C.mixed, C.names, fun g l h => ?_⟩, fun x h => List.mem_cons_of_mem _ h, fun w hw => ⟨hz.big, fun i hi => ?_⟩⟩, fun g l h => ?_⟩
    · rcases List.mem_cons.1 h with e | h
      · cases e; exact hne
      · exact C.full g l h
    · obtain ⟨b', off', e, _, hci⟩ := hz.at_ i hi
      simp only [Option.some.injEq, Addr.mk.injEq] at e
      obtain ⟨rfl, rfl, _⟩ := e
      obtain ⟨t', fr', hw'⟩ := hw b cs.toList (by simp)
      refine ⟨b, off, rfl, ?_, ?_⟩
      · rcases Nat.lt_or_ge b w.heap.size with h' | h'
        · exact h'
        · simp [Array.getElem?_eq_none h'] at hw'
      · simp only [World.cell?, hh] at hci
        simp only [World.cell?, hw']
        simpa using hci
    · rcases List.mem_cons.1 h with e | h
      · cases e
        exact ⟨t, fr, by simpa using hh⟩
      · exact hG g l h
end
end Go.Proofs.YtonpbbhlmapbdaaGreatDoor.V
