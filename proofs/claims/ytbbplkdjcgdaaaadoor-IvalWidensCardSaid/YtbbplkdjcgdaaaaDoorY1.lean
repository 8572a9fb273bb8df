/- ival.Widen by the kit's walk: what stands in memory. Conditions: none. -/
import Derived.Test.YtbbplkdjcgdaaaaDoorX2
import Derived.WalkKit
import Derived.Lib.Hide
set_option linter.unusedVariables false
set_option linter.unusedSimpArgs false
namespace Go.Proofs.YtbbplkdjcgdaaaaDoor.V
open Go Go.Wk Go.RowKit

/-- a slice of numbers that came in -/
structure Thr (W : World) (a : Option Addr) (zs : List Int) : Prop where
  big : zs.length ≤ 140737488351232
  at_ : ∀ i, (h : i < zs.length) → ∃ b off, a = some ⟨b, off, none⟩ ∧ b < W.heap.size ∧ W.cell? ⟨b, off + i, none⟩ = some (.int .i64 zs[i])
theorem Thr.below {W W' : World} {a : Option Addr} {zs : List Int} (h : Thr W a zs) (hb : Below W.heap.size W W') : Thr W' a zs where
  big := h.big
  at_ i hi := by
    obtain ⟨b, off, e, hl, hc⟩ := h.at_ i hi
    exact ⟨b, off, e, Nat.lt_of_lt_of_le hl hb.size, (hb.cell (by simpa using hl)).trans hc⟩
/-- the three variables of Widen -/
structure WB (W w : World) (l h b0 b1 r0 r1 : Int) : Prop where
  bel : Below W.heap.size W w
  sz : W.heap.size + 1 + 1 < w.heap.size
  rA : w.heap[W.heap.size]? = some (.cells #[.int .i64 l, .int .i64 h] 23 (0, 0))
  rB : w.heap[W.heap.size + 1]? = some (.cells #[.int .i64 b0, .int .i64 b1] 23 (0, 0))
  rC : w.heap[W.heap.size + 1 + 1]? = some (.cells #[.int .i64 r0, .int .i64 r1] 23 (0, 0))
theorem alloc3 (w : World) (A B C : Obj) : (((w.alloc A).alloc B).alloc C).heap[w.heap.size]? = some A ∧ (((w.alloc A).alloc B).alloc C).heap[w.heap.size + 1]? = some B ∧ (((w.alloc A).alloc B).alloc C).heap[w.heap.size + 1 + 1]? = some C ∧ w.heap.size + 1 + 1 < (((w.alloc A).alloc B).alloc C).heap.size := by
  have e : (((w.alloc A).alloc B).alloc C).heap = ((w.heap.push A).push B).push C := rfl
  rw [e]
  refine ⟨?_, ?_, ?_, by simp⟩
  · rw [Array.getElem?_push, Array.getElem?_push, Array.getElem?_push]; simp; omega
  · rw [Array.getElem?_push, Array.getElem?_push]; simp
  · rw [Array.getElem?_push]; simp
theorem WB.start (W : World) (l h b0 b1 : Int) : WB W (((W.alloc (.cells #[.int .i64 l, .int .i64 h] 23)).alloc (.cells #[.int .i64 b0, .int .i64 b1] 23)).alloc (.cells #[.int .i64 0, .int .i64 0] 23)) l h b0 b1 0 0 where
  bel := (((Below.refl W.heap.size W).alloc (Nat.le_refl _) _).alloc (by simp) _).alloc (by simp; omega) _
  sz := (alloc3 W _ _ _).2.2.2
  rA := (alloc3 W _ _ _).1
  rB := (alloc3 W _ _ _).2.1
  rC := (alloc3 W _ _ _).2.2.1
theorem WB.below {W w w' : World} {l h b0 b1 r0 r1 : Int} (B : WB W w l h b0 b1 r0 r1) (hb : Below w.heap.size w w') : WB W w' l h b0 b1 r0 r1 where
  bel := B.bel.trans (hb.mono B.bel.size)
  sz := Nat.lt_of_lt_of_le B.sz hb.size
  rA := (hb.block _ (by have := B.sz; omega)).trans B.rA
  rB := (hb.block _ (by have := B.sz; omega)).trans B.rB
  rC := (hb.block _ (by have := B.sz; omega)).trans B.rC
theorem heap_set0 {w : World} {b i : Nat} {v : Value} {cs : Array Value} {t : TypeId} (h : w.heap[b]? = some (.cells cs t (0, 0))) : (w.setCell ⟨b, i, none⟩ v).heap[b]? = some (.cells (cs.setIfInBounds i v) t (0, 0)) := heap_setCell_same w b i cs t v h
theorem size_set (w : World) (a : Addr) (v : Value) : (w.setCell a v).heap.size = w.heap.size := by simp [World.setCell]
theorem set_bel (w : World) {n b i : Nat} (v : Value) (h : n ≤ b) : Below n w (w.setCell ⟨b, i, none⟩ v) :=
  ⟨rfl, rfl, rfl, by rw [size_set]; exact Nat.le_refl _, fun k hk => heap_setCell_other w _ _ _ (by simp; omega)⟩
theorem WB.set0 {W w : World} {l h b0 b1 r0 r1 : Int} (B : WB W w l h b0 b1 r0 r1) (x : Int) : WB W (w.setCell ⟨W.heap.size, 0, none⟩ (.int .i64 x)) x h b0 b1 r0 r1 where
  bel := B.bel.trans (set_bel w _ (Nat.le_refl _))
  sz := by rw [size_set]; exact B.sz
  rA := (heap_set0 B.rA).trans (by simp)
  rB := (heap_setCell_other w _ _ _ (by simp)).trans B.rB
  rC := (heap_setCell_other w _ _ _ (by simp; omega)).trans B.rC
theorem WB.set1 {W w : World} {l h b0 b1 r0 r1 : Int} (B : WB W w l h b0 b1 r0 r1) (x : Int) : WB W (w.setCell ⟨W.heap.size, 1, none⟩ (.int .i64 x)) l x b0 b1 r0 r1 where
  bel := B.bel.trans (set_bel w _ (Nat.le_refl _))
  sz := by rw [size_set]; exact B.sz
  rA := (heap_set0 B.rA).trans (by simp)
  rB := (heap_setCell_other w _ _ _ (by simp)).trans B.rB
  rC := (heap_setCell_other w _ _ _ (by simp; omega)).trans B.rC
theorem WB.cells {W w : World} {l h b0 b1 r0 r1 : Int} (B : WB W w l h b0 b1 r0 r1) : w.cell? ⟨W.heap.size, 0, none⟩ = some (.int .i64 l) ∧ w.cell? ⟨W.heap.size, 1, none⟩ = some (.int .i64 h) ∧ w.cell? ⟨W.heap.size + 1, 0, none⟩ = some (.int .i64 b0) ∧ w.cell? ⟨W.heap.size + 1, 1, none⟩ = some (.int .i64 b1) ∧
    w.frozen? ⟨W.heap.size, 0, none⟩ = false ∧ w.frozen? ⟨W.heap.size, 1, none⟩ = false ∧ w.frozen? ⟨W.heap.size + 1 + 1, 0, none⟩ = false ∧ w.frozen? ⟨W.heap.size + 1 + 1, 1, none⟩ = false ∧ w.cell? ⟨W.heap.size + 1 + 1, 0, none⟩ = some (.int .i64 r0) ∧ w.cell? ⟨W.heap.size + 1 + 1, 1, none⟩ = some (.int .i64 r1) := by
  have := B.rA
  have := B.rB
  have := B.rC
  simp [World.cell?, World.frozen?, *]
/-- the lower end that is found among the first thresholds -/
def loS (b : Int) : List Int → Int → Int
  | [], x => x
  | t :: r, x => loS b r (if t ≤ b then (if x < t then t else x) else x)
def hiS (b : Int) : List Int → Int → Int
  | [], x => x
  | t :: r, x => hiS b r (if t ≥ b then (if t < x then t else x) else x)
def widenI (a b : Int × Int) (zs : List Int) : Int × Int :=
  if a.1 > a.2 ∨ b.1 > b.2 then ival_Join a.1 a.2 b.1 b.2 else
    (if b.1 < a.1 then loS b.1 zs (-9223372036854775808) else a.1, if b.2 > a.2 then hiS b.2 zs 9223372036854775807 else a.2)
theorem lo_step {b x : Int} {zs : List Int} {k : Nat} (h : k < zs.length) : loS b (zs.drop k) x = loS b (zs.drop (k + 1)) (if zs[k] ≤ b then (if x < zs[k] then zs[k] else x) else x) := by
  rw [List.drop_eq_getElem_cons h]; rfl
theorem hi_step {b x : Int} {zs : List Int} {k : Nat} (h : k < zs.length) : hiS b (zs.drop k) x = hiS b (zs.drop (k + 1)) (if zs[k] ≥ b then (if zs[k] < x then zs[k] else x) else x) := by
  rw [List.drop_eq_getElem_cons h]; rfl
end Go.Proofs.YtbbplkdjcgdaaaaDoor.V
