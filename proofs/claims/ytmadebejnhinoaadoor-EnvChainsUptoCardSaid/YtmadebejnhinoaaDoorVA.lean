/- ival.Widen by the kit's walk: what stands in memory; ival.Widen by the kit's walk; ival.Widen at given thresholds, as an entry of the table; num.Widen at given thresholds, evaluated. Conditions: none. -/
import Derived.Test.YtmadebejnhinoaaDoorEB
import Derived.WalkKit
import Derived.Lib.Hide

set_option linter.unusedVariables false
set_option linter.unusedSimpArgs false
namespace Go.Proofs.YtmadebejnhinoaaDoor.V
open Go Go.Wk Go.RowKit

/-- a slice of numbers that came in -/
structure Thr (W : World) (a : Option Addr) (zs : List Int) : Prop where
  big : zs.length ≤ 140737488351232
  at_ : ∀ i, (h : i < zs.length) → ∃ b off, a = some ⟨b, off, none⟩ ∧ b < W.heap.size ∧ W.cell? ⟨b, off + i, none⟩ = some (.int .i64 zs[i])
theorem Thr.below {W W' : World} {a : Option Addr} {zs : List Int} (h : Thr W a zs) (hb : Below W.heap.size W W') : Thr W' a zs where
  big := h.big
  at_ i hi := by
    obtain ⟨b, off, e, hl, hc⟩ := h.at_ i hi
    exact ⟨b, off, e, Nat.lt_of_lt_of_le hl hb.size, (hb.cell (by simpa using hl)).trans hc⟩
/-- the three variables of Widen -/
structure WB (W w : World) (l h b0 b1 r0 r1 : Int) : Prop where
  bel : Below W.heap.size W w
  sz : W.heap.size + 1 + 1 < w.heap.size
  rA : w.heap[W.heap.size]? = some (.cells #[.int .i64 l, .int .i64 h] 41 (0, 0))
  rB : w.heap[W.heap.size + 1]? = some (.cells #[.int .i64 b0, .int .i64 b1] 41 (0, 0))
  rC : w.heap[W.heap.size + 1 + 1]? = some (.cells #[.int .i64 r0, .int .i64 r1] 41 (0, 0))
theorem alloc3 (w : World) (A B C : Obj) : (((w.alloc A).alloc B).alloc C).heap[w.heap.size]? = some A ∧ (((w.alloc A).alloc B).alloc C).heap[w.heap.size + 1]? = some B ∧ (((w.alloc A).alloc B).alloc C).heap[w.heap.size + 1 + 1]? = some C ∧ w.heap.size + 1 + 1 < (((w.alloc A).alloc B).alloc C).heap.size := by
  have e : (((w.alloc A).alloc B).alloc C).heap = ((w.heap.push A).push B).push C := rfl
  rw [e]
  refine ⟨?_, ?_, ?_, by simp⟩
  · rw [Array.getElem?_push, Array.getElem?_push, Array.getElem?_push]; simp; omega
  · rw [Array.getElem?_push, Array.getElem?_push]; simp
  · rw [Array.getElem?_push]; simp
theorem WB.start (W : World) (l h b0 b1 : Int) : WB W (((W.alloc (.cells #[.int .i64 l, .int .i64 h] 41)).alloc (.cells #[.int .i64 b0, .int .i64 b1] 41)).alloc (.cells #[.int .i64 0, .int .i64 0] 41)) l h b0 b1 0 0 where
  bel := (((Below.refl W.heap.size W).alloc (Nat.le_refl _) _).alloc (by simp) _).alloc (by simp; omega) _
  sz := (alloc3 W _ _ _).2.2.2
  rA := (alloc3 W _ _ _).1
  rB := (alloc3 W _ _ _).2.1
  rC := (alloc3 W _ _ _).2.2.1
theorem WB.below {W w w' : World} {l h b0 b1 r0 r1 : Int} (B : WB W w l h b0 b1 r0 r1) (hb : Below w.heap.size w w') : WB W w' l h b0 b1 r0 r1 where
  bel := B.bel.trans (hb.mono B.bel.size)
  sz := Nat.lt_of_lt_of_le B.sz hb.size
  rA := (hb.block _ (by have := B.sz; omega)).trans B.rA
  rB := (hb.block _ (by have := B.sz; omega)).trans B.rB
  rC := (hb.block _ (by have := B.sz; omega)).trans B.rC
theorem heap_set0 {w : World} {b i : Nat} {v : Value} {cs : Array Value} {t : TypeId} (h : w.heap[b]? = some (.cells cs t (0, 0))) : (w.setCell ⟨b, i, none⟩ v).heap[b]? = some (.cells (cs.setIfInBounds i v) t (0, 0)) := heap_setCell_same w b i cs t v h
theorem size_set (w : World) (a : Addr) (v : Value) : (w.setCell a v).heap.size = w.heap.size := by simp [World.setCell]
theorem set_bel (w : World) {n b i : Nat} (v : Value) (h : n ≤ b) : Below n w (w.setCell ⟨b, i, none⟩ v) :=
  ⟨rfl, rfl, rfl, by rw [size_set]; exact Nat.le_refl _, fun k hk => heap_setCell_other w _ _ _ (by simp; omega)⟩
theorem WB.set0 {W w : World} {l h b0 b1 r0 r1 : Int} (B : WB W w l h b0 b1 r0 r1) (x : Int) : WB W (w.setCell ⟨W.heap.size, 0, none⟩ (.int .i64 x)) x h b0 b1 r0 r1 where
  bel := B.bel.trans (set_bel w _ (Nat.le_refl _))
  sz := by rw [size_set]; exact B.sz
  rA := (heap_set0 B.rA).trans (by simp)
  rB := (heap_setCell_other w _ _ _ (by simp)).trans B.rB
  rC := (heap_setCell_other w _ _ _ (by simp; omega)).trans B.rC
theorem WB.set1 {W w : World} {l h b0 b1 r0 r1 : Int} (B : WB W w l h b0 b1 r0 r1) (x : Int) : WB W (w.setCell ⟨W.heap.size, 1, none⟩ (.int .i64 x)) l x b0 b1 r0 r1 where
  bel := B.bel.trans (set_bel w _ (Nat.le_refl _))
  sz := by rw [size_set]; exact B.sz
  rA := (heap_set0 B.rA).trans (by simp)
  rB := (heap_setCell_other w _ _ _ (by simp)).trans B.rB
  rC := (heap_setCell_other w _ _ _ (by simp; omega)).trans B.rC
theorem WB.cells {W w : World} {l h b0 b1 r0 r1 : Int} (B : WB W w l h b0 b1 r0 r1) : w.cell? ⟨W.heap.size, 0, none⟩ = some (.int .i64 l) ∧ w.cell? ⟨W.heap.size, 1, none⟩ = some (.int .i64 h) ∧ w.cell? ⟨W.heap.size + 1, 0, none⟩ = some (.int .i64 b0) ∧ w.cell? ⟨W.heap.size + 1, 1, none⟩ = some (.int .i64 b1) ∧
    w.frozen? ⟨W.heap.size, 0, none⟩ = false ∧ w.frozen? ⟨W.heap.size, 1, none⟩ = false ∧ w.frozen? ⟨W.heap.size + 1 + 1, 0, none⟩ = false ∧ w.frozen? ⟨W.heap.size + 1 + 1, 1, none⟩ = false ∧ w.cell? ⟨W.heap.size + 1 + 1, 0, none⟩ = some (.int .i64 r0) ∧ w.cell? ⟨W.heap.size + 1 + 1, 1, none⟩ = some (.int .i64 r1) := by
  have := B.rA
  have := B.rB
  have := B.rC
  simp [World.cell?, World.frozen?, *]
/-- the lower end that is found among the first thresholds -/
def loS (b : Int) : List Int → Int → Int
  | [], x => x
  | t :: r, x => loS b r (if t ≤ b then (if x < t then t else x) else x)
def hiS (b : Int) : List Int → Int → Int
  | [], x => x
  | t :: r, x => hiS b r (if t ≥ b then (if t < x then t else x) else x)
def widenI (a b : Int × Int) (zs : List Int) : Int × Int :=
  if a.1 > a.2 ∨ b.1 > b.2 then A.ival_Join a.1 a.2 b.1 b.2 else
    (if b.1 < a.1 then loS b.1 zs (-9223372036854775808) else a.1, if b.2 > a.2 then hiS b.2 zs 9223372036854775807 else a.2)
theorem lo_step {b x : Int} {zs : List Int} {k : Nat} (h : k < zs.length) : loS b (zs.drop k) x = loS b (zs.drop (k + 1)) (if zs[k] ≤ b then (if x < zs[k] then zs[k] else x) else x) := by
  rw [List.drop_eq_getElem_cons h]; rfl
theorem hi_step {b x : Int} {zs : List Int} {k : Nat} (h : k < zs.length) : hiS b (zs.drop k) x = hiS b (zs.drop (k + 1)) (if zs[k] ≥ b then (if zs[k] < x then zs[k] else x) else x) := by
  rw [List.drop_eq_getElem_cons h]; rfl
end Go.Proofs.YtmadebejnhinoaaDoor.V


set_option linter.unusedVariables false
set_option linter.unusedSimpArgs false
namespace Go.Proofs.YtmadebejnhinoaaDoor.V
open Go Go.Wk Go.RowKit

theorem widenI_main {a0 a1 b0 b1 : Int} {zs : List Int} (h : a0 ≤ a1) (h' : b0 ≤ b1) : widenI (a0, a1) (b0, b1) zs = (if b0 < a0 then loS b0 zs (-9223372036854775808) else a0, if b1 > a1 then hiS b1 zs 9223372036854775807 else a1) := by
  unfold widenI
  rw [if_neg (fun q => q.elim (fun e => by simp at e; omega) (fun e => by simp at e; omega))]
def iv (x : Int × Int) : Value := .agg #[.int .i64 x.1, .int .i64 x.2]
theorem c_none {W : World} (hG : GOK G W) (a0 a1 : Int) : Calls P 56 #[.agg #[.int .i64 a0, .int .i64 a1]] W fun e w' => e = .returned (.bool (decide (a0 > a1))) ∧ Below W.heap.size W w' :=
  TabOK_calls C num_Meet.t (F := A.ival_none.F) rfl Tryd.func56 (by kernel_rfl) (vs := [.agg #[.int .i64 a0, .int .i64 a1]]) (v := .bool (A.ival_none a0 a1)) hG rfl
theorem c_join {W : World} (hG : GOK G W) (a0 a1 b0 b1 : Int) : Calls P 45 #[.agg #[.int .i64 a0, .int .i64 a1], .agg #[.int .i64 b0, .int .i64 b1]] W fun e w' => e = .returned (.agg #[.int .i64 (A.ival_Join a0 a1 b0 b1).1, .int .i64 (A.ival_Join a0 a1 b0 b1).2]) ∧ Below W.heap.size W w' :=
  TabOK_calls C num_Meet.t (F := A.ival_Join.F) rfl Tryd.func45 (by kernel_rfl) (vs := [.agg #[.int .i64 a0, .int .i64 a1], .agg #[.int .i64 b0, .int .i64 b1]]) (v := iv (A.ival_Join a0 a1 b0 b1)) hG rfl
theorem gok_b {w w' : World} (h : GOK G w) {n : Nat} (hn : w.heap.size ≤ n) (hb : Below n w w') : GOK G w' := fun g cs hg => (h g cs hg).below (hb.mono hn) (h g cs hg).lt
set_option maxRecDepth 100000 in
set_option maxHeartbeats 2000000 in
theorem wid_ret {W w : World} {l h b0 b1 x y : Int} {t : Array Value} {R : Int × Int} (B : WB W w l h b0 b1 0 0) (ht : t.getD 6 undef = .pointer (some ⟨W.heap.size + 1 + 1, 0, none⟩)) (hR : (x, y) = R) :
    bodyPost P Tryd.f47 (fun e w' => e = .returned (iv R) ∧ Below W.heap.size W w') .ret ⟨t, []⟩ ((w.setCell ⟨W.heap.size + 1 + 1, 0, none⟩ (.int .i64 x)).setCell ⟨W.heap.size + 1 + 1, 1, none⟩ (.int .i64 y)) := by
  subst hR
  have h1 : ((w.setCell ⟨W.heap.size + 1 + 1, 0, none⟩ (.int .i64 x)).setCell ⟨W.heap.size + 1 + 1, 1, none⟩ (.int .i64 y)).heap[W.heap.size + 1 + 1]? = some (.cells #[.int .i64 x, .int .i64 y] 41 (0, 0)) :=
    (heap_set0 (heap_set0 B.rC)).trans (by simp)
  have c0 : ((w.setCell ⟨W.heap.size + 1 + 1, 0, none⟩ (.int .i64 x)).setCell ⟨W.heap.size + 1 + 1, 1, none⟩ (.int .i64 y)).cell? ⟨W.heap.size + 1 + 1, 0, none⟩ = some (.int .i64 x) := by simp [World.cell?, h1]
  have c1 : ((w.setCell ⟨W.heap.size + 1 + 1, 0, none⟩ (.int .i64 x)).setCell ⟨W.heap.size + 1 + 1, 1, none⟩ (.int .i64 y)).cell? ⟨W.heap.size + 1 + 1, 1, none⟩ = some (.int .i64 y) := by simp [World.cell?, h1]
  have hbel : Below W.heap.size W ((w.setCell ⟨W.heap.size + 1 + 1, 0, none⟩ (.int .i64 x)).setCell ⟨W.heap.size + 1 + 1, 1, none⟩ (.int .i64 y)) := (B.bel.trans (set_bel _ _ (by omega))).trans (set_bel _ _ (by omega))
  have hb := Lib.hid hbel
  clear hbel B h1
  generalize ((w.setCell ⟨W.heap.size + 1 + 1, 0, none⟩ (.int .i64 x)).setCell ⟨W.heap.size + 1 + 1, 1, none⟩ (.int .i64 y)) = w2 at *
  refine ⟨rfl, iv (x, y), ?_, rfl, hb.out⟩
  simp only [Array.getD_eq_getD_getElem?] at ht
  simp [results, Tryd.results47, go_sem, ht, c0, c1, iv]
set_option maxRecDepth 100000 in
set_option maxHeartbeats 4000000 in
theorem wid_walk {W : World} (hG : GOK G W) (a0 a1 b0 b1 : Int) {a : Option Addr} {cap : Nat} {zs : List Int} (hz : Thr W a zs) :
    Calls P 47 #[.agg #[.int .i64 a0, .int .i64 a1], .agg #[.int .i64 b0, .int .i64 b1], .slice a zs.length cap] W fun e w' => e = .returned (iv (widenI (a0, a1) (b0, b1) zs)) ∧ Below W.heap.size W w' := by
  have HB := Lib.hid (WB.start W a0 a1 b0 b1)
  have HG := Lib.hid hG
  have HZ := Lib.hid hz
  clear hG hz
  go_enter Tryd.func47, Tryd.ntmps47
  go_wp2_with (go_at_call 56; refine (c_none (gok_b HG.out (Nat.le_refl _) HB.out.bel) _ _).mono ?_; rintro e W1 ⟨rfl, hb⟩; refine Hid.out ?_)
  have HB1 := Lib.hid (HB.out.below hb)
  clear hb HB
  by_cases ha : a0 > a1
  · rw [decide_eq_true ha]
    obtain ⟨c1, c2, c3, c4, f1, f2, f3, f4, c5, c6⟩ := HB1.out.cells
    refine Lib.hid ?_
    go_wp2_with (go_at_call 45; refine (c_join (gok_b HG.out (Nat.le_refl _) HB1.out.bel) _ _ _ _).mono ?_; rintro e W2 ⟨rfl, hb⟩; refine Hid.out ?_)
    have HB2 := Lib.hid (HB1.out.below hb)
    clear hb HB1 c1 c2 c3 c4 f1 f2 f3 f4 c5 c6
    obtain ⟨c1, c2, c3, c4, f1, f2, f3, f4, c5, c6⟩ := HB2.out.cells
    refine Lib.hid ?_
    go_wp2
    exact wid_ret HB2.out (by rfl) (by unfold widenI; rw [if_pos (.inl ha)])
  · rw [decide_eq_false ha]
    obtain ⟨c1, c2, c3, c4, f1, f2, f3, f4, c5, c6⟩ := HB1.out.cells
    refine Lib.hid ?_
    go_wp2_with (go_at_call 56; refine (c_none (gok_b HG.out (Nat.le_refl _) HB1.out.bel) _ _).mono ?_; rintro e W2 ⟨rfl, hb⟩; refine Hid.out ?_)
    have HB2 := Lib.hid (HB1.out.below hb)
    clear hb HB1 c1 c2 c3 c4 f1 f2 f3 f4 c5 c6
    by_cases hb' : b0 > b1
    · rw [decide_eq_true hb']
      obtain ⟨c1, c2, c3, c4, f1, f2, f3, f4, c5, c6⟩ := HB2.out.cells
      refine Lib.hid ?_
      go_wp2_with (go_at_call 45; refine (c_join (gok_b HG.out (Nat.le_refl _) HB2.out.bel) _ _ _ _).mono ?_; rintro e W3 ⟨rfl, hb⟩; refine Hid.out ?_)
      have HB3 := Lib.hid (HB2.out.below hb)
      clear hb HB2 c1 c2 c3 c4 f1 f2 f3 f4 c5 c6
      obtain ⟨c1, c2, c3, c4, f1, f2, f3, f4, c5, c6⟩ := HB3.out.cells
      refine Lib.hid ?_
      go_wp2
      exact wid_ret HB3.out (by rfl) (by unfold widenI; rw [if_pos (.inr hb')])
    · rw [decide_eq_false hb']
      obtain ⟨c1, c2, c3, c4, f1, f2, f3, f4, c5, c6⟩ := HB2.out.cells
      refine Lib.hid ?_
      by_cases hl : b0 < a0
      · go_wp2
        go_loopw [28] (fun i wr => ∃ k : Nat, k ≤ zs.length ∧ i = .int .i64 k ∧ ∃ x, WB W wr x a1 b0 b1 0 0 ∧ loS b0 (zs.drop k) x = loS b0 zs (-9223372036854775808)) (fun i wr => zs.length - (intOf i).toNat)
        case atStart => exact ⟨0, Nat.zero_le _, rfl, _, HB2.out.set0 _, by simp⟩
        case round =>
          obtain ⟨k, hk, rfl, x, hB, hx⟩ := hrel
          have HBr := Lib.hid hB
          have HX := Lib.hid hx
          clear hB hx c1 c2 c3 c4 f1 f2 f3 f4 c5 c6
          obtain ⟨c1, c2, c3, c4, f1, f2, f3, f4, c5, c6⟩ := HBr.out.cells
          have hbig := HZ.out.big
          by_cases hlt : k < zs.length
          · obtain ⟨b, off, rfl, hbl, hc⟩ := (HZ.out.below HBr.out.bel).at_ k hlt
            by_cases ht : zs[k] ≤ b0
            · go_wp2
              refine ⟨⟨k + 1, by omega, by go_num, _, HBr.out.set0 _, ?_⟩, by simp [intOf, wrap64]; omega⟩
              rw [← HX.out, lo_step hlt, if_pos ht]
            · go_wp2
              refine ⟨⟨k + 1, by omega, by go_num, _, HBr.out, ?_⟩, by simp [intOf, wrap64]; omega⟩
              rw [← HX.out, lo_step hlt, if_neg ht]
          · have hxv : x = loS b0 zs (-9223372036854775808) := by
              have e := HX.out
              rw [List.drop_eq_nil_of_le (by omega)] at e
              exact e
            by_cases hh : b1 > a1
            · go_wp2
              go_loopw [50] (fun i wr => ∃ k : Nat, k ≤ zs.length ∧ i = .int .i64 k ∧ ∃ y, WB W wr x y b0 b1 0 0 ∧ hiS b1 (zs.drop k) y = hiS b1 zs 9223372036854775807) (fun i wr => zs.length - (intOf i).toNat)
              case atStart => exact ⟨0, Nat.zero_le _, rfl, _, HBr.out.set1 _, by simp⟩
              case round =>
                obtain ⟨k, hk, rfl, y, hB, hx⟩ := hrel
                have HBs := Lib.hid hB
                have HY := Lib.hid hx
                clear hB hx
                obtain ⟨d1, d2, d3, d4, g1, g2, g3, g4, d5, d6⟩ := HBs.out.cells
                have hbig := HZ.out.big
                by_cases hlt : k < zs.length
                · obtain ⟨b, off, rfl, hbl, hc⟩ := (HZ.out.below HBs.out.bel).at_ k hlt
                  by_cases ht : zs[k] ≥ b1
                  · go_wp2
                    refine ⟨⟨k + 1, by omega, by go_num, _, HBs.out.set1 _, ?_⟩, by simp [intOf, wrap64]; omega⟩
                    rw [← HY.out, hi_step hlt, if_pos ht]
                  · go_wp2
                    refine ⟨⟨k + 1, by omega, by go_num, _, HBs.out, ?_⟩, by simp [intOf, wrap64]; omega⟩
                    rw [← HY.out, hi_step hlt, if_neg ht]
                · go_wp2
                  have hy : y = hiS b1 zs 9223372036854775807 := by
                    have e := HY.out
                    rw [List.drop_eq_nil_of_le (by omega)] at e
                    exact e
                  exact wid_ret HBs.out (by rfl) (by (try rw [hy]); rw [widenI_main (by omega) (by omega), if_pos (by omega), if_pos (by omega)])
            · go_wp2
              exact wid_ret HBr.out (by rfl) (by rw [widenI_main (by omega) (by omega), if_pos (by omega), if_neg (by omega)])
      · skip
        by_cases hh : b1 > a1
        · go_wp2
          go_loopw [50] (fun i wr => ∃ k : Nat, k ≤ zs.length ∧ i = .int .i64 k ∧ ∃ y, WB W wr a0 y b0 b1 0 0 ∧ hiS b1 (zs.drop k) y = hiS b1 zs 9223372036854775807) (fun i wr => zs.length - (intOf i).toNat)
          case atStart => exact ⟨0, Nat.zero_le _, rfl, _, HB2.out.set1 _, by simp⟩
          case round =>
            obtain ⟨k, hk, rfl, y, hB, hx⟩ := hrel
            have HBs := Lib.hid hB
            have HY := Lib.hid hx
            clear hB hx
            obtain ⟨d1, d2, d3, d4, g1, g2, g3, g4, d5, d6⟩ := HBs.out.cells
            have hbig := HZ.out.big
            by_cases hlt : k < zs.length
            · obtain ⟨b, off, rfl, hbl, hc⟩ := (HZ.out.below HBs.out.bel).at_ k hlt
              by_cases ht : zs[k] ≥ b1
              · go_wp2
                refine ⟨⟨k + 1, by omega, by go_num, _, HBs.out.set1 _, ?_⟩, by simp [intOf, wrap64]; omega⟩
                rw [← HY.out, hi_step hlt, if_pos ht]
              · go_wp2
                refine ⟨⟨k + 1, by omega, by go_num, _, HBs.out, ?_⟩, by simp [intOf, wrap64]; omega⟩
                rw [← HY.out, hi_step hlt, if_neg ht]
            · go_wp2
              have hy : y = hiS b1 zs 9223372036854775807 := by
                have e := HY.out
                rw [List.drop_eq_nil_of_le (by omega)] at e
                exact e
              exact wid_ret HBs.out (by rfl) (by (try rw [hy]); rw [widenI_main (by omega) (by omega), if_neg (by omega), if_pos (by omega)])
        · go_wp2
          exact wid_ret HB2.out (by rfl) (by rw [widenI_main (by omega) (by omega), if_neg (by omega), if_neg (by omega)])
end Go.Proofs.YtmadebejnhinoaaDoor.V


set_option linter.unusedVariables false
set_option linter.unusedSimpArgs false
namespace Go.Proofs.YtmadebejnhinoaaDoor.V
open Go Go.Wk Go.RowKit
noncomputable section
def cV : PS Value where
  dec := fun vs => match vs with
    | x :: r => some (x, r)
    | [] => none
  enc x := [x]
  ok := by
    intro vs p r h
    split at h <;> simp only [Option.some.injEq, Prod.mk.injEq, reduceCtorEq] at h
    obtain ⟨rfl, rfl⟩ := h; rfl
def eqV (x y : Value) : Bool := @decide (x = y) (Classical.propDecidable _)
theorem eqV_self (x : Value) : eqV x x = true := by simp [eqV]
theorem eqV_eq {x y : Value} (h : eqV x y = true) : x = y := by simpa [eqV] using h
def wid (a0 a1 b0 b1 : Int) (zs : List Int) : Int × Int := widenI (a0, a1) (b0, b1) zs
def wid93 (thr : Value) (zs : List Int) : FV := mkF (cP (cA (cP (cI .i64) (cP (cI .i64) cU))) (cP (cA (cP (cI .i64) (cP (cI .i64) cU))) (cP cV cU))) (fun | ((_, (_, ())), ((_, (_, ())), (x, ()))) => eqV x thr)
  (fun | ((a0, (a1, ())), ((b0, (b1, ())), (_, ()))) => .agg #[.int .i64 (wid a0 a1 b0 b1 zs).1, .int .i64 (wid a0 a1 b0 b1 zs).2])
def L_wid (thr : Value) (zs : List Int) : TL := (47, wid93 thr zs) :: L_num_Meet
/-- the variables, and a block that came in -/
structure Kept (G' : Glob) (a : Option Addr) (zs : List Int) : Prop where
  cx : Cx P G'
  sub : ∀ x, x ∈ G → x ∈ G'
  thr : ∀ w, GOK G' w → Thr w a zs
theorem Kept.gok {G' : Glob} {a : Option Addr} {zs : List Int} (h : Kept G' a zs) {w : World} (hG : GOK G' w) : GOK G w := fun g cs hg => hG g cs (h.sub _ hg)
theorem L_wid.t {G' : Glob} {a : Option Addr} {cap : Nat} {zs : List Int} (h : Kept G' a zs) : TabOK P G' (tab (L_wid (.slice a zs.length cap) zs)) :=
  TabOK_consV (TabOK_sub h.sub num_Meet.t) Tryd.func47 h.cx (by kernel_rfl) (by
    intro vs v w hG hv
    obtain ⟨⟨⟨a0, a1, _⟩, ⟨b0, b1, _⟩, x, _⟩, rfl, h1, rfl⟩ := mkF_inv hv
    have := eqV_eq h1
    subst this
    exact wid_walk (h.gok hG) a0 a1 b0 b1 (h.thr w hG))
/-- of a world where the thresholds lie -/
theorem kept_of {W : World} {a : Option Addr} {zs : List Int} (hG : GOK G W) (hz : Thr W a zs) : ∃ G', Kept G' a zs ∧ GOK G' W := by
  by_cases he : zs = []
  · subst he
    exact ⟨G, ⟨C, fun _ h => h, fun w _ => ⟨hz.big, fun i h => by simp at h⟩⟩, hG⟩
  · have hpos : 0 < zs.length := List.length_pos_iff.2 he
    obtain ⟨b, off, rfl, hl, hc⟩ := hz.at_ 0 hpos
    have hobj : ∃ cs t fr, W.heap[b]? = some (.cells cs t fr) := by
      unfold World.cell? at hc
      split at hc
      · exact ⟨_, _, _, by assumption⟩
      · simp at hc
    obtain ⟨cs, t, fr, hh⟩ := hobj
    have hne : cs.toList ≠ [] := by
      intro e
      have e' : cs = #[] := by cases cs; simp_all
      subst e'
      simp [World.cell?, hh] at hc
    refine ⟨(b, cs.toList) :: G, ⟨⟨C.mixed, C.names, fun g l h => ?_⟩, fun x h => List.mem_cons_of_mem _ h, fun w hw => ⟨hz.big, fun i hi => ?_⟩⟩, fun g l h => ?_⟩
    · rcases List.mem_cons.1 h with e | h
      · cases e; exact hne
      · exact C.full g l h
    · obtain ⟨b', off', e, _, hci⟩ := hz.at_ i hi
      simp only [Option.some.injEq, Addr.mk.injEq] at e
      obtain ⟨rfl, rfl, _⟩ := e
      obtain ⟨t', fr', hw'⟩ := hw b cs.toList (by simp)
      refine ⟨b, off, rfl, ?_, ?_⟩
      · rcases Nat.lt_or_ge b w.heap.size with h' | h'
        · exact h'
        · simp [Array.getElem?_eq_none h'] at hw'
      · simp only [World.cell?, hh] at hci
        simp only [World.cell?, hw']
        simpa using hci
    · rcases List.mem_cons.1 h with e | h
      · cases e
        exact ⟨t, fr, by simpa using hh⟩
      · exact hG g l h
end
end Go.Proofs.YtmadebejnhinoaaDoor.V


set_option linter.unusedVariables false
set_option maxHeartbeats 4000000
set_option maxRecDepth 100000
namespace Go.Proofs.YtmadebejnhinoaaDoor.V
open Go Go.Wk
noncomputable section
def nwid.c0 {γ : Type} (n : γ) (k : Bool × Int × Int × Int × Int → γ) (G0 : Glob) (thr : Value) (zs : List Int) (a0 : Bool) (a1 : Int) (a2 : Int) (a3 : Int) (a4 : Int) (b0 : Bool) (b1 : Int) (b2 : Int) (b3 : Int) (b4 : Int) (t1 : Bool × Int × Int × Int × Int) (t2 : Bool × Int × Int × Int × Int) (t3 : Bool) (t4 : Bool) (t5 : Int × Int) (t6 : Bool) (t7 : Int) (t8 : Int) (t9 : Bool × Int × Int × Int × Int) : γ := bif t1.fst
  then k (t2.fst, t2.snd.fst, t2.snd.snd.fst, t2.snd.snd.snd.fst, t2.snd.snd.snd.snd)
  else bif t2.fst
   then k (t1.fst, t1.snd.fst, t1.snd.snd.fst, t1.snd.snd.snd.fst, t1.snd.snd.snd.snd)
   else bif t3
    then bif t4
     then k (t9.fst, t9.snd.fst, t9.snd.snd.fst, t9.snd.snd.snd.fst, t9.snd.snd.snd.snd)
     else n
    else n
def nwid.c {γ : Type} (n : γ) (k : Bool × Int × Int × Int × Int → γ) (G0 : Glob) (thr : Value) (zs : List Int) (a0 : Bool) (a1 : Int) (a2 : Int) (a3 : Int) (a4 : Int) (b0 : Bool) (b1 : Int) (b2 : Int) (b3 : Int) (b4 : Int) : γ := let t1 := num_Norm a0 a1 a2 a3 a4; let t2 := num_Norm b0 b1 b2 b3 b4; let t3 := B.cong_Leq.ok t2.snd.snd.snd.fst t2.snd.snd.snd.snd t1.snd.snd.snd.fst t1.snd.snd.snd.snd; let t4 := eqV thr thr; let t5 := wid t1.snd.fst t1.snd.snd.fst t2.snd.fst t2.snd.snd.fst zs; let t6 := B.cong_Leq t2.snd.snd.snd.fst t2.snd.snd.snd.snd t1.snd.snd.snd.fst t1.snd.snd.snd.snd; let t7 := bif !t6 then 1 else t1.snd.snd.snd.fst; let t8 := bif !t6 then 0 else t1.snd.snd.snd.snd; let t9 := num_Make t5.fst t5.snd t7 t8; nwid.c0 n k G0 thr zs a0 a1 a2 a3 a4 b0 b1 b2 b3 b4 t1 t2 t3 t4 t5 t6 t7 t8 t9
theorem nwid.r (G0 : Glob) (thr : Value) (zs : List Int) (a0 : Bool) (a1 : Int) (a2 : Int) (a3 : Int) (a4 : Int) (b0 : Bool) (b1 : Int) (b2 : Int) (b3 : Int) (b4 : Int) : runF P G0 (tab (L_wid thr zs)) { merge := true, glue := true } 60 Tryd.f29 [.agg #[.bool a0, .int .i64 a1, .int .i64 a2, .int .u64 a3, .int .u64 a4], .agg #[.bool b0, .int .i64 b1, .int .i64 b2, .int .u64 b3, .int .u64 b4], thr] = nwid.c none (fun q => some (.agg #[.bool (q).1, .int .i64 (q).2.1, .int .i64 (q).2.2.1, .int .u64 (q).2.2.2.1, .int .u64 (q).2.2.2.2] : Value)) G0 thr zs a0 a1 a2 a3 a4 b0 b1 b2 b3 b4 := by kernel_rfl

end
end Go.Proofs.YtmadebejnhinoaaDoor.V

