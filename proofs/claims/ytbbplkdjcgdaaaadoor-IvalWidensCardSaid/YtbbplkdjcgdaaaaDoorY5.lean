/- IvalWidens: what a widening does, how often an end may change; what stands in memory. Conditions: none. -/
import Derived.Test.YtbbplkdjcgdaaaaDoorY4
set_option linter.unusedVariables false
set_option linter.unusedSimpArgs false
namespace Go.Proofs.YtbbplkdjcgdaaaaDoor.V
open Go Go.Wk Go.RowKit

theorem normal_s (a b : Int) : ref_normal a b = if b < a then (1, 0) else (a, b) := by
  unfold ref_normal ref_normal.c
  (try unfold ref_normal.c0)
  simp only [empty_s, None_s, id, Bool.cond_decide]
theorem widen_eq (a b : Int × Int) (zs : List Int) : widenI a b zs = widenJ a b zs := by
  unfold widenI widenJ
  by_cases h1 : a.1 > a.2
  · rw [if_pos (.inl h1), if_pos h1, ij_s, normal_s]
    unfold jn
    rw [if_pos h1]
  · rw [if_neg h1]
    by_cases h2 : b.1 > b.2
    · rw [if_pos (.inr h2), if_pos h2, ij_s]
      unfold jn
      rw [if_neg h1, if_pos h2]
    · rw [if_neg (by omega), if_neg h2]
theorem leq_s (a0 a1 b0 b1 : Int) : ival_Leq a0 a1 b0 b1 = decide (a1 < a0 ∨ (b0 ≤ a0 ∧ a1 ≤ b1)) := by
  unfold ival_Leq ival_Leq.c ival_Leq.c0
  simp only [none_s, id]
  by_cases h1 : a1 < a0
  · simp [h1]
  · simp [h1]
def capL (zs : List Int) (x : Int × Int) : Int := if x.1 ≤ x.2 then cntL ((-9223372036854775808 : Int) :: zs) (x.1 - 1) else zs.length + 1
def capH (zs : List Int) (x : Int × Int) : Int := if x.1 ≤ x.2 then cntH ((9223372036854775807 : Int) :: zs) (x.2 + 1) else zs.length + 1
theorem capL_le (zs : List Int) (x : Int × Int) : 0 ≤ capL zs x ∧ capL zs x ≤ zs.length + 1 := by
  unfold capL
  split
  · have := cntL_le ((-9223372036854775808 : Int) :: zs) (x.1 - 1)
    simpa using this
  · omega
theorem capH_le (zs : List Int) (x : Int × Int) : 0 ≤ capH zs x ∧ capH zs x ≤ zs.length + 1 := by
  unfold capH
  split
  · have := cntH_le ((9223372036854775807 : Int) :: zs) (x.2 + 1)
    simpa using this
  · omega
structure Cnt (zs : List Int) (x : Int × Int) (l h : Int) : Prop where
  l0 : 0 ≤ l
  h0 : 0 ≤ h
  l1 : l + capL zs x ≤ zs.length + 1
  h1 : h + capH zs x ≤ zs.length + 1
theorem cnt_start (zs : List Int) (x : Int × Int) : Cnt zs x 0 0 := ⟨Int.le_refl _, Int.le_refl _, by have := (capL_le zs x).2; omega, by have := (capH_le zs x).2; omega⟩
/-- one widening: it holds both, its ends are numbers, and a change is counted -/
structure Wide (zs : List Int) (a b nx : Int × Int) : Prop where
  i1 : I64 nx.1
  i2 : I64 nx.2
  le1 : ival_Leq a.1 a.2 nx.1 nx.2 = true
  le2 : ival_Leq b.1 b.2 nx.1 nx.2 = true
  cl : a.1 ≤ a.2 → nx.1 ≠ a.1 → capL zs nx + 1 ≤ capL zs a
  ch : a.1 ≤ a.2 → nx.2 ≠ a.2 → capH zs nx + 1 ≤ capH zs a
  kl : a.1 ≤ a.2 → nx.1 = a.1 → capL zs nx = capL zs a
  kh : a.1 ≤ a.2 → nx.2 = a.2 → capH zs nx = capH zs a
theorem wide_of {zs : List Int} {a b : Int × Int} (i0 : I64 a.1) (i1 : I64 a.2) (j0 : I64 b.1) (j1 : I64 b.2) : Wide zs a b (widenI a b zs) := by
  have I10 : I64 1 ∧ I64 0 := by unfold I64; omega
  by_cases h1 : a.2 < a.1
  · have e : widenI a b zs = if b.2 < b.1 then (1, 0) else b := by
      unfold widenI
      rw [if_pos (.inl h1), ij_s]; unfold jn; rw [if_pos h1]
    have na : ∀ {p : Prop}, a.1 ≤ a.2 → p := fun h => absurd h (by omega)
    rw [e]
    by_cases h2 : b.2 < b.1
    · rw [if_pos h2]
      exact ⟨I10.1, I10.2, by rw [leq_s]; simp; omega, by rw [leq_s]; simp; omega, na, na, na, na⟩
    · rw [if_neg h2]
      exact ⟨j0, j1, by rw [leq_s]; simp; omega, by rw [leq_s]; simp, na, na, na, na⟩
  · by_cases h2 : b.2 < b.1
    · have e : widenI a b zs = a := by
        unfold widenI
        rw [if_pos (.inr h2), ij_s]; unfold jn; rw [if_neg h1, if_pos h2]
      rw [e]
      exact ⟨i0, i1, by rw [leq_s]; simp, by rw [leq_s]; simp; omega, fun _ h => absurd rfl h, fun _ h => absurd rfl h, fun _ _ => rfl, fun _ _ => rfl⟩
    · obtain ⟨a0, a1⟩ := a
      obtain ⟨b0, b1⟩ := b
      simp only at h1 h2 i0 i1 j0 j1
      have w := wid_ends (zs := zs) i0 i1 j0 j1 (by omega) (by omega)
      unfold wid at w
      generalize widenI (a0, a1) (b0, b1) zs = nx at w ⊢
      obtain ⟨l, h⟩ := nx
      obtain ⟨Il, Ih, la, lb, ha, hb, lt, ht⟩ := w
      simp only at Il Ih la lb ha hb lt ht
      refine ⟨Il, Ih, by rw [leq_s]; simp; omega, by rw [leq_s]; simp; omega, fun _ hne => ?_, fun _ hne => ?_, fun _ he => ?_, fun _ he => ?_⟩
      · unfold capL
        simp only at hne ⊢
        rw [if_pos (by omega), if_pos (by omega)]
        rcases lt with e | ⟨hm, hlt⟩
        · exact absurd e hne
        · exact cntL_lt (by omega) (by omega) hm
      · unfold capH
        simp only at hne ⊢
        rw [if_pos (by omega), if_pos (by omega)]
        rcases ht with e | ⟨hm, hlt⟩
        · exact absurd e hne
        · exact cntH_lt (by omega) (by omega) hm
      · unfold capL
        simp only at he ⊢
        rw [if_pos (by omega), if_pos (by omega), he]
      · unfold capH
        simp only at he ⊢
        rw [if_pos (by omega), if_pos (by omega), he]
theorem cnt_step {zs : List Int} {a b nx : Int × Int} {l h : Int} (C : Cnt zs a l h) (w : Wide zs a b nx) (ha : a.1 ≤ a.2) : Cnt zs nx (if nx.1 = a.1 then l else l + 1) (if nx.2 = a.2 then h else h + 1) := by
  obtain ⟨c1, c2, c3, c4⟩ := C
  refine ⟨by split <;> omega, by split <;> omega, ?_, ?_⟩
  · split
    · rename_i e; rw [w.kl ha e]; exact c3
    · rename_i e; have := w.cl ha e; omega
  · split
    · rename_i e; rw [w.kh ha e]; exact c4
    · rename_i e; have := w.ch ha e; omega
theorem cnt_none {zs : List Int} {a nx : Int × Int} {l h : Int} (C : Cnt zs a l h) (ha : a.2 < a.1) : Cnt zs nx l h := by
  obtain ⟨c1, c2, c3, c4⟩ := C
  have e1 : capL zs a = zs.length + 1 := by unfold capL; rw [if_neg (by omega)]
  have e2 : capH zs a = zs.length + 1 := by unfold capH; rw [if_neg (by omega)]
  exact ⟨c1, c2, by have := (capL_le zs nx).2; omega, by have := (capH_le zs nx).2; omega⟩
theorem cnt_fin {zs : List Int} {a : Int × Int} {l h : Int} (C : Cnt zs a l h) : 0 ≤ l ∧ 0 ≤ h ∧ l ≤ zs.length + 1 ∧ h ≤ zs.length + 1 := by
  obtain ⟨c1, c2, c3, c4⟩ := C
  have := (capL_le zs a).1
  have := (capH_le zs a).1
  omega
/-- a slice of intervals that came in -/
structure RowI (W : World) (a : Option Addr) (bs : List (Int × Int)) : Prop where
  big : bs.length ≤ 140737488351232
  at_ : ∀ i, (h : i < bs.length) → ∃ b off, a = some ⟨b, off, none⟩ ∧ b < W.heap.size ∧ I64 bs[i].1 ∧ I64 bs[i].2 ∧ W.cell? ⟨b, off + i * 2, none⟩ = some (.int .i64 bs[i].1) ∧ W.cell? ⟨b, off + i * 2 + 1, none⟩ = some (.int .i64 bs[i].2)
theorem RowI.below {W W' : World} {a : Option Addr} {bs : List (Int × Int)} (h : RowI W a bs) (hb : Below W.heap.size W W') : RowI W' a bs where
  big := h.big
  at_ i hi := by
    obtain ⟨b, off, e, hl, i0, i1, c0, c1⟩ := h.at_ i hi
    exact ⟨b, off, e, Nat.lt_of_lt_of_le hl hb.size, i0, i1, (hb.cell (by simpa using hl)).trans c0, (hb.cell (by simpa using hl)).trans c1⟩
def vals (zs : List Int) : List Value := zs.map (.int .i64)
abbrev ivc (x : Int × Int) : Array Value := #[.int .i64 x.1, .int .i64 x.2]
/-- the box of the first argument, and the copy with one number behind it -/
structure OW (W w : World) (x : Int × Int) (g cap : Nat) (ys : List Int) : Prop where
  bel : Below W.heap.size W w
  rA : w.heap[W.heap.size]? = some (.cells (ivc x) 23 (0, 0))
  lo : W.heap.size < g
  hi : g < w.heap.size
  row : ∃ cur : Array Value, w.heap[g]? = some (.cells cur 2 (0, 0)) ∧ cur.size = cap ∧ cur.toList.take (ys.length + 1) = vals ys ++ [.int .i64 77]
  le : ys.length + 1 ≤ cap
  cm : cap ≤ maxLen
theorem OW.below {W w w' : World} {x : Int × Int} {g cap : Nat} {ys : List Int} (h : OW W w x g cap ys) (hb : Below w.heap.size w w') : OW W w' x g cap ys where
  bel := h.bel.trans (hb.mono h.bel.size)
  rA := (hb.block _ (by have := h.lo; have := h.hi; omega)).trans h.rA
  lo := h.lo
  hi := Nat.lt_of_lt_of_le h.hi hb.size
  row := by
    obtain ⟨cur, h1, h2⟩ := h.row
    exact ⟨cur, (hb.block _ h.hi).trans h1, h2⟩
  le := h.le
  cm := h.cm
theorem OW.cell {W w : World} {x : Int × Int} {g cap : Nat} {ys : List Int} (h : OW W w x g cap ys) {i : Nat} (hi : i < ys.length) : w.cell? ⟨g, i, none⟩ = some (.int .i64 ys[i]) := by
  obtain ⟨cur, h1, h2, h3⟩ := h.row
  have hlen : i < cur.size := by have := h.le; omega
  have e : cur.toList[i]? = (vals ys ++ [.int .i64 77])[i]? := by rw [← h3, List.getElem?_take_of_lt (by omega)]
  rw [List.getElem?_append_left (by simpa [vals] using hi)] at e
  simp only [World.cell?, h1]
  simpa [vals, hi] using e
theorem OW.last {W w : World} {x : Int × Int} {g cap : Nat} {ys : List Int} (h : OW W w x g cap ys) : w.cell? ⟨g, ys.length, none⟩ = some (.int .i64 77) := by
  obtain ⟨cur, h1, h2, h3⟩ := h.row
  have hlen : ys.length < cur.size := by have := h.le; omega
  have e : cur.toList[ys.length]? = (vals ys ++ [.int .i64 77])[ys.length]? := by rw [← h3, List.getElem?_take_of_lt (by omega)]
  rw [List.getElem?_append_right (by simp [vals])] at e
  simp only [World.cell?, h1]
  simpa [vals] using e
theorem OW.frozen {W w : World} {x : Int × Int} {g cap : Nat} {ys : List Int} (h : OW W w x g cap ys) (i : Nat) : w.frozen? ⟨g, i, none⟩ = false := by
  obtain ⟨cur, h1, _⟩ := h.row
  simp [World.frozen?, h1]
theorem OW.thr {W w : World} {x : Int × Int} {g cap : Nat} {ys : List Int} (h : OW W w x g cap ys) (hb : ys.length ≤ 140737488351232) : Thr w (some ⟨g, 0, none⟩) ys where
  big := hb
  at_ i hi := ⟨g, 0, rfl, h.hi, by rw [Nat.zero_add]; exact h.cell hi⟩
theorem OW.set {W w : World} {x : Int × Int} {g cap : Nat} {ys : List Int} (h : OW W w x g cap ys) {i : Nat} (hi : i < ys.length) (z : Int) : OW W (w.setCell ⟨g, i, none⟩ (.int .i64 z)) x g cap (ys.set i z) where
  bel := h.bel.trans (set_bel w _ (by have := h.lo; omega))
  rA := (heap_setCell_other w _ _ _ (by have := h.lo; simp; omega)).trans h.rA
  lo := h.lo
  hi := by rw [size_set]; exact h.hi
  row := by
    obtain ⟨cur, h1, h2, h3⟩ := h.row
    refine ⟨_, heap_set0 h1, by simpa using h2, ?_⟩
    rw [Array.toList_setIfInBounds, List.take_set, List.length_set, h3, List.set_append_left _ _ (by simpa [vals] using hi)]
    simp [vals, List.map_set]
  le := by simpa using h.le
  cm := h.cm
/-- and the variable now -/
structure ON (W w : World) (x : Int × Int) (g cap : Nat) (ys : List Int) (N : Nat) (n : Int × Int) : Prop where
  o : OW W w x g cap ys
  lN : g < N
  hN : N < w.heap.size
  rN : w.heap[N]? = some (.cells (ivc n) 23 (0, 0))
theorem ON.below {W w w' : World} {x n : Int × Int} {g cap N : Nat} {ys : List Int} (h : ON W w x g cap ys N n) (hb : Below w.heap.size w w') : ON W w' x g cap ys N n where
  o := h.o.below hb
  lN := h.lN
  hN := Nat.lt_of_lt_of_le h.hN hb.size
  rN := (hb.block _ h.hN).trans h.rN
theorem ON.store {W w : World} {x n : Int × Int} {g cap N : Nat} {ys : List Int} (h : ON W w x g cap ys N n) (y z : Int) : ON W ((w.setCell ⟨N, 0, none⟩ (.int .i64 y)).setCell ⟨N, 1, none⟩ (.int .i64 z)) x g cap ys N (y, z) where
  o := by
    have hl := h.lN
    have hlo := h.o.lo
    refine ⟨(h.o.bel.trans (set_bel w _ (by omega))).trans (set_bel _ _ (by omega)), ?_, hlo, by simp only [size_set]; exact h.o.hi, ?_, h.o.le, h.o.cm⟩
    · exact ((heap_setCell_other _ _ _ _ (by simp; omega)).trans (heap_setCell_other w _ _ _ (by simp; omega))).trans h.o.rA
    · obtain ⟨cur, h1, h2⟩ := h.o.row
      exact ⟨cur, ((heap_setCell_other _ _ _ _ (by simp; omega)).trans (heap_setCell_other w _ _ _ (by simp; omega))).trans h1, h2⟩
  lN := h.lN
  hN := by simp only [size_set]; exact h.hN
  rN := (heap_set0 (heap_set0 h.rN)).trans (by simp)
theorem ON.set {W w : World} {x n : Int × Int} {g cap N : Nat} {ys : List Int} (h : ON W w x g cap ys N n) {i : Nat} (hi : i < ys.length) (z : Int) : ON W (w.setCell ⟨g, i, none⟩ (.int .i64 z)) x g cap (ys.set i z) N n where
  o := h.o.set hi z
  lN := h.lN
  hN := by rw [size_set]; exact h.hN
  rN := (heap_setCell_other w _ _ _ (by have := h.lN; simp; omega)).trans h.rN
/-- and a variable behind them -/
structure OB (W w : World) (x : Int × Int) (g cap : Nat) (ys : List Int) (N : Nat) (n : Int × Int) (B : Nat) (b : Int × Int) : Prop where
  on : ON W w x g cap ys N n
  lB : N < B
  hB : B < w.heap.size
  rB : w.heap[B]? = some (.cells (ivc b) 23 (0, 0))
theorem OB.below {W w w' : World} {x n b : Int × Int} {g cap N B : Nat} {ys : List Int} (h : OB W w x g cap ys N n B b) (hb : Below w.heap.size w w') : OB W w' x g cap ys N n B b where
  on := h.on.below hb
  lB := h.lB
  hB := Nat.lt_of_lt_of_le h.hB hb.size
  rB := (hb.block _ h.hB).trans h.rB
theorem OB.set {W w : World} {x n b : Int × Int} {g cap N B : Nat} {ys : List Int} (h : OB W w x g cap ys N n B b) {i : Nat} (hi : i < ys.length) (z : Int) : OB W (w.setCell ⟨g, i, none⟩ (.int .i64 z)) x g cap (ys.set i z) N n B b where
  on := h.on.set hi z
  lB := h.lB
  hB := by rw [size_set]; exact h.hB
  rB := (heap_setCell_other w _ _ _ (by have := h.on.lN; have := h.lB; simp; omega)).trans h.rB
end Go.Proofs.YtbbplkdjcgdaaaaDoor.V
