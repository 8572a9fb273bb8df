/- Parts: V1, V2. Conditions: none. -/
import Derived.Test.YtonpbbhlmapbdaaGreatDoorE8
import Derived.WalkKit
import Derived.Lib.Hide
set_option linter.unusedVariables false
set_option linter.unusedSimpArgs false
set_option maxHeartbeats 4000000
namespace Go.Proofs.YtonpbbhlmapbdaaGreatDoor.V
open Go Go.Wk Go.RowKit
/-- a slice of numbers that came in -/
structure Thr (W : World) (a : Option Addr) (zs : List Int) : Prop where
  big : zs.length ≤ 140737488351232
  at_ : ∀ i, (h : i < zs.length) → ∃ b off, a = some ⟨b, off, none⟩ ∧ b < W.heap.size ∧ W.cell? ⟨b, off + i, none⟩ = some (.int .i64 zs[i])
theorem Thr.below {W W' : World} {a : Option Addr} {zs : List Int} (h : Thr W a zs) (hb : Below W.heap.size W W') : Thr W' a zs where
  big := h.big
  at_ i hi := by
    obtain ⟨b, off, e, hl, hc⟩ := h.at_ i hi
    exact ⟨b, off, e, Nat.lt_of_lt_of_le hl hb.size, (hb.cell (by simpa using hl)).trans hc⟩
/-- the three variables of Widen -/
structure WB (W w : World) (l h b0 b1 r0 r1 : Int) : Prop where
  bel : Below W.heap.size W w
  sz : W.heap.size + 1 + 1 < w.heap.size
  rA : w.heap[W.heap.size]? = some (.cells #[.int .i64 l, .int .i64 h] 23 (0, 0))
  rB : w.heap[W.heap.size + 1]? = some (.cells #[.int .i64 b0, .int .i64 b1] 23 (0, 0))
  rC : w.heap[W.heap.size + 1 + 1]? = some (.cells #[.int .i64 r0, .int .i64 r1] 23 (0, 0))
theorem alloc3 (w : World) (A B C : Obj) : (((w.alloc A).alloc B).alloc C).heap[w.heap.size]? = some A ∧ (((w.alloc A).alloc B).alloc C).heap[w.heap.size + 1]? = some B ∧ (((w.alloc A).alloc B).alloc C).heap[w.heap.size + 1 + 1]? = some C ∧ w.heap.size + 1 + 1 < (((w.alloc A).alloc B).alloc C).heap.size := by
  have e : (((w.alloc A).alloc B).alloc C).heap = ((w.heap.push A).push B).push C := rfl
  rw [e]
  refine ⟨?_, ?_, ?_, by simp⟩
  · rw [Array.getElem?_push, Array.getElem?_push, Array.getElem?_push]; simp; omega
  · rw [Array.getElem?_push, Array.getElem?_push]; simp
  · rw [Array.getElem?_push]; simp
theorem WB.start (W : World) (l h b0 b1 : Int) : WB W (((W.alloc (.cells #[.int .i64 l, .int .i64 h] 23)).alloc (.cells #[.int .i64 b0, .int .i64 b1] 23)).alloc (.cells #[.int .i64 0, .int .i64 0] 23)) l h b0 b1 0 0 where
  bel := (((Below.refl W.heap.size W).alloc (Nat.le_refl _) _).alloc (by simp) _).alloc (by simp; omega) _
  sz := (alloc3 W _ _ _).2.2.2
  rA := (alloc3 W _ _ _).1
  rB := (alloc3 W _ _ _).2.1
  rC := (alloc3 W _ _ _).2.2.1
theorem WB.below {W w w' : World} {l h b0 b1 r0 r1 : Int} (B : WB W w l h b0 b1 r0 r1) (hb : Below w.heap.size w w') : WB W w' l h b0 b1 r0 r1 where
  bel := B.bel.trans (hb.mono B.bel.size)
  sz := Nat.lt_of_lt_of_le B.sz hb.size
  rA := (hb.block _ (by have := B.sz; omega)).trans B.rA
  rB := (hb.block _ (by have := B.sz; omega)).trans B.rB
  rC := (hb.block _ (by have := B.sz; omega)).trans B.rC
theorem heap_set0 {w : World} {b i : Nat} {v : Value} {cs : Array Value} {t : TypeId} (h : w.heap[b]? = some (.cells cs t (0, 0))) : (w.setCell ⟨b, i, none⟩ v).heap[b]? = some (.cells (cs.setIfInBounds i v) t (0, 0)) := heap_setCell_same w b i cs t v h
theorem size_set (w : World) (a : Addr) (v : Value) : (w.setCell a v).heap.size = w.heap.size := by simp [World.setCell]
theorem set_bel (w : World) {n b i : Nat} (v : Value) (h : n ≤ b) : Below n w (w.setCell ⟨b, i, none⟩ v) :=
  ⟨rfl, rfl, rfl, by rw [size_set]; exact Nat.le_refl _, fun k hk => heap_setCell_other w _ _ _ (by simp; omega)⟩
theorem WB.set0 {W w : World} {l h b0 b1 r0 r1 : Int} (B : WB W w l h b0 b1 r0 r1) (x : Int) : WB W (w.setCell ⟨W.heap.size, 0, none⟩ (.int .i64 x)) x h b0 b1 r0 r1 where
  bel := B.bel.trans (set_bel w _ (Nat.le_refl _))
  sz := by rw [size_set]; exact B.sz
  rA := (heap_set0 B.rA).trans (by simp)
  rB := (heap_setCell_other w _ _ _ (by simp)).trans B.rB
  rC := (heap_setCell_other w _ _ _ (by simp; omega)).trans B.rC
theorem WB.set1 {W w : World} {l h b0 b1 r0 r1 : Int} (B : WB W w l h b0 b1 r0 r1) (x : Int) : WB W (w.setCell ⟨W.heap.size, 1, none⟩ (.int .i64 x)) l x b0 b1 r0 r1 where
  bel := B.bel.trans (set_bel w _ (Nat.le_refl _))
  sz := by rw [size_set]; exact B.sz
  rA := (heap_set0 B.rA).trans (by simp)
  rB := (heap_setCell_other w _ _ _ (by simp)).trans B.rB
  rC := (heap_setCell_other w _ _ _ (by simp; omega)).trans B.rC
theorem WB.cells {W w : World} {l h b0 b1 r0 r1 : Int} (B : WB W w l h b0 b1 r0 r1) : w.cell? ⟨W.heap.size, 0, none⟩ = some (.int .i64 l) ∧ w.cell? ⟨W.heap.size, 1, none⟩ = some (.int .i64 h) ∧ w.cell? ⟨W.heap.size + 1, 0, none⟩ = some (.int .i64 b0) ∧ w.cell? ⟨W.heap.size + 1, 1, none⟩ = some (.int .i64 b1) ∧
    w.frozen? ⟨W.heap.size, 0, none⟩ = false ∧ w.frozen? ⟨W.heap.size, 1, none⟩ = false ∧ w.frozen? ⟨W.heap.size + 1 + 1, 0, none⟩ = false ∧ w.frozen? ⟨W.heap.size + 1 + 1, 1, none⟩ = false ∧ w.cell? ⟨W.heap.size + 1 + 1, 0, none⟩ = some (.int .i64 r0) ∧ w.cell? ⟨W.heap.size + 1 + 1, 1, none⟩ = some (.int .i64 r1) := by
  have := B.rA
  have := B.rB
  have := B.rC
  simp [World.cell?, World.frozen?, *]
/-- the lower end that is found among the first thresholds -/
def loS (b : Int) : List Int → Int → Int
  | [], x => x
  | t :: r, x => loS b r (if t ≤ b then (if x < t then t else x) else x)
def hiS (b : Int) : List Int → Int → Int
  | [], x => x
  | t :: r, x => hiS b r (if t ≥ b then (if t < x then t else x) else x)
def widenI (a b : Int × Int) (zs : List Int) : Int × Int :=
  if a.1 > a.2 ∨ b.1 > b.2 then A.ival_Join a.1 a.2 b.1 b.2 else
    (if b.1 < a.1 then loS b.1 zs (-9223372036854775808) else a.1, if b.2 > a.2 then hiS b.2 zs 9223372036854775807 else a.2)
theorem lo_step {b x : Int} {zs : List Int} {k : Nat} (h : k < zs.length) : loS b (zs.drop k) x = loS b (zs.drop (k + 1)) (if zs[k] ≤ b then (if x < zs[k] then zs[k] else x) else x) := by
  rw [List.drop_eq_getElem_cons h]; rfl
theorem hi_step {b x : Int} {zs : List Int} {k : Nat} (h : k < zs.length) : hiS b (zs.drop k) x = hiS b (zs.drop (k + 1)) (if zs[k] ≥ b then (if zs[k] < x then zs[k] else x) else x) := by
  rw [List.drop_eq_getElem_cons h]; rfl
theorem widenI_main {a0 a1 b0 b1 : Int} {zs : List Int} (h : a0 ≤ a1) (h' : b0 ≤ b1) : widenI (a0, a1) (b0, b1) zs = (if b0 < a0 then loS b0 zs (-9223372036854775808) else a0, if b1 > a1 then hiS b1 zs 9223372036854775807 else a1) := by
  unfold widenI
  rw [if_neg (fun q => q.elim (fun e => by simp at e; omega) (fun e => by simp at e; omega))]
def iv (x : Int × Int) : Value := .agg #[.int .i64 x.1, .int .i64 x.2]
theorem c_none {W : World} (hG : GOK G W) (a0 a1 : Int) : Calls P 137 #[.agg #[.int .i64 a0, .int .i64 a1]] W fun e w' => e = .returned (.bool (decide (a0 > a1))) ∧ Below W.heap.size W w' :=
  TabOK_calls C law_rest.t (F := A.ival_none.F) rfl Tryz.func137 (by kernel_rfl) (vs := [.agg #[.int .i64 a0, .int .i64 a1]]) (v := .bool (A.ival_none a0 a1)) hG rfl
theorem c_join {W : World} (hG : GOK G W) (a0 a1 b0 b1 : Int) : Calls P 73 #[.agg #[.int .i64 a0, .int .i64 a1], .agg #[.int .i64 b0, .int .i64 b1]] W fun e w' => e = .returned (.agg #[.int .i64 (A.ival_Join a0 a1 b0 b1).1, .int .i64 (A.ival_Join a0 a1 b0 b1).2]) ∧ Below W.heap.size W w' :=
  TabOK_calls C law_rest.t (F := A.ival_Join.F) rfl Tryz.func73 (by kernel_rfl) (vs := [.agg #[.int .i64 a0, .int .i64 a1], .agg #[.int .i64 b0, .int .i64 b1]]) (v := iv (A.ival_Join a0 a1 b0 b1)) hG rfl
theorem gok_b {w w' : World} (h : GOK G w) {n : Nat} (hn : w.heap.size ≤ n) (hb : Below n w w') : GOK G w' := fun g cs hg => (h g cs hg).below (hb.mono hn) (h g cs hg).lt
set_option maxRecDepth 100000 in
set_option maxHeartbeats 2000000 in
theorem wid_ret {W w : World} {l h b0 b1 x y : Int} {t : Array Value} {R : Int × Int} (B : WB W w l h b0 b1 0 0) (ht : t.getD 6 undef = .pointer (some ⟨W.heap.size + 1 + 1, 0, none⟩)) (hR : (x, y) = R) :
    bodyPost P Tryz.f93 (fun e w' => e = .returned (iv R) ∧ Below W.heap.size W w') .ret ⟨t, []⟩ ((w.setCell ⟨W.heap.size + 1 + 1, 0, none⟩ (.int .i64 x)).setCell ⟨W.heap.size + 1 + 1, 1, none⟩ (.int .i64 y)) := by
  subst hR
  have h1 : ((w.setCell ⟨W.heap.size + 1 + 1, 0, none⟩ (.int .i64 x)).setCell ⟨W.heap.size + 1 + 1, 1, none⟩ (.int .i64 y)).heap[W.heap.size + 1 + 1]? = some (.cells #[.int .i64 x, .int .i64 y] 23 (0, 0)) :=
    (heap_set0 (heap_set0 B.rC)).trans (by simp)
  have c0 : ((w.setCell ⟨W.heap.size + 1 + 1, 0, none⟩ (.int .i64 x)).setCell ⟨W.heap.size + 1 + 1, 1, none⟩ (.int .i64 y)).cell? ⟨W.heap.size + 1 + 1, 0, none⟩ = some (.int .i64 x) := by simp [World.cell?, h1]
  have c1 : ((w.setCell ⟨W.heap.size + 1 + 1, 0, none⟩ (.int .i64 x)).setCell ⟨W.heap.size + 1 + 1, 1, none⟩ (.int .i64 y)).cell? ⟨W.heap.size + 1 + 1, 1, none⟩ = some (.int .i64 y) := by simp [World.cell?, h1]
  have hbel : Below W.heap.size W ((w.setCell ⟨W.heap.size + 1 + 1, 0, none⟩ (.int .i64 x)).setCell ⟨W.heap.size + 1 + 1, 1, none⟩ (.int .i64 y)) := (B.bel.trans (set_bel _ _ (by omega))).trans (set_bel _ _ (by omega))
  have hb := Lib.hid hbel
  clear hbel B h1
  generalize ((w.setCell ⟨W.heap.size + 1 + 1, 0, none⟩ (.int .i64 x)).setCell ⟨W.heap.size + 1 + 1, 1, none⟩ (.int .i64 y)) = w2 at *
  refine ⟨rfl, iv (x, y), ?_, rfl, hb.out⟩
  simp only [Array.getD_eq_getD_getElem?] at ht
  simp [results, Tryz.results93, go_sem, ht, c0, c1, iv]
set_option maxRecDepth 100000 in
set_option maxHeartbeats 4000000 in
theorem wid_walk {W : World} (hG : GOK G W) (a0 a1 b0 b1 : Int) {a : Option Addr} {cap : Nat} {zs : List Int} (hz : Thr W a zs) :
    Calls P 93 #[.agg #[.int .i64 a0, .int .i64 a1], .agg #[.int .i64 b0, .int .i64 b1], .slice a zs.length cap] W fun e w' => e = .returned (iv (widenI (a0, a1) (b0, b1) zs)) ∧ Below W.heap.size W w' := by
  have HB := Lib.hid (WB.start W a0 a1 b0 b1)
  have HG := Lib.hid hG
  have HZ := Lib.hid hz
  clear hG hz
  go_enter Tryz.func93, Tryz.ntmps93
  go_wp2_with (go_at_call 137; refine (c_none (gok_b HG.out (Nat.le_refl _) HB.out.bel) _ _).mono ?_; rintro e W1 ⟨rfl, hb⟩; refine Hid.out ?_)
  have HB1 := Lib.hid (HB.out.below hb)
  clear hb HB
  by_cases ha : a0 > a1
  · rw [decide_eq_true ha]
    obtain ⟨c1, c2, c3, c4, f1, f2, f3, f4, c5, c6⟩ := HB1.out.cells
    refine Lib.hid ?_
    go_wp2_with (go_at_call 73; refine (c_join (gok_b HG.out (Nat.le_refl _) HB1.out.bel) _ _ _ _).mono ?_; rintro e W2 ⟨rfl, hb⟩; refine Hid.out ?_)
    have HB2 := Lib.hid (HB1.out.below hb)
    clear hb HB1 c1 c2 c3 c4 f1 f2 f3 f4 c5 c6
    obtain ⟨c1, c2, c3, c4, f1, f2, f3, f4, c5, c6⟩ := HB2.out.cells
    refine Lib.hid ?_
    go_wp2
    exact wid_ret HB2.out (by rfl) (by unfold widenI; rw [if_pos (.inl ha)])
  · rw [decide_eq_false ha]
    obtain ⟨c1, c2, c3, c4, f1, f2, f3, f4, c5, c6⟩ := HB1.out.cells
    refine Lib.hid ?_
    go_wp2_with (go_at_call 137; refine (c_none (gok_b HG.out (Nat.le_refl _) HB1.out.bel) _ _).mono ?_; rintro e W2 ⟨rfl, hb⟩; refine Hid.out ?_)
    have HB2 := Lib.hid (HB1.out.below hb)
    clear hb HB1 c1 c2 c3 c4 f1 f2 f3 f4 c5 c6
    by_cases hb' : b0 > b1
    · rw [decide_eq_true hb']
      obtain ⟨c1, c2, c3, c4, f1, f2, f3, f4, c5, c6⟩ := HB2.out.cells
      refine Lib.hid ?_
      go_wp2_with (go_at_call 73; refine (c_join (gok_b HG.out (Nat.le_refl _) HB2.out.bel) _ _ _ _).mono ?_; rintro e W3 ⟨rfl, hb⟩; refine Hid.out ?_)
      have HB3 := Lib.hid (HB2.out.below hb)
      clear hb HB2 c1 c2 c3 c4 f1 f2 f3 f4 c5 c6
      obtain ⟨c1, c2, c3, c4, f1, f2, f3, f4, c5, c6⟩ := HB3.out.cells
      refine Lib.hid ?_
      go_wp2
      exact wid_ret HB3.out (by rfl) (by unfold widenI; rw [if_pos (.inr hb')])
    · rw [decide_eq_false hb']
      obtain ⟨c1, c2, c3, c4, f1, f2, f3, f4, c5, c6⟩ := HB2.out.cells
      refine Lib.hid ?_
      by_cases hl : b0 < a0
      · go_wp2
        go_loopw [28] (fun i wr => ∃ k : Nat, k ≤ zs.length ∧ i = .int .i64 k ∧ ∃ x, WB W wr x a1 b0 b1 0 0 ∧ loS b0 (zs.drop k) x = loS b0 zs (-9223372036854775808)) (fun i wr => zs.length - (intOf i).toNat)
        case atStart => exact ⟨0, Nat.zero_le _, rfl, _, HB2.out.set0 _, by simp⟩
        case round =>
          obtain ⟨k, hk, rfl, x, hB, hx⟩ := hrel
          have HBr := Lib.hid hB
          have HX := Lib.hid hx
          clear hB hx c1 c2 c3 c4 f1 f2 f3 f4 c5 c6
          obtain ⟨c1, c2, c3, c4, f1, f2, f3, f4, c5, c6⟩ := HBr.out.cells
          have hbig := HZ.out.big
          by_cases hlt : k < zs.length
          · obtain ⟨b, off, rfl, hbl, hc⟩ := (HZ.out.below HBr.out.bel).at_ k hlt
            by_cases ht : zs[k] ≤ b0
            · go_wp2
              refine ⟨⟨k + 1, by omega, by go_num, _, HBr.out.set0 _, ?_⟩, by simp [intOf, wrap64]; omega⟩
              rw [← HX.out, lo_step hlt, if_pos ht]
            · go_wp2
              refine ⟨⟨k + 1, by omega, by go_num, _, HBr.out, ?_⟩, by simp [intOf, wrap64]; omega⟩
              rw [← HX.out, lo_step hlt, if_neg ht]
          · have hxv : x = loS b0 zs (-9223372036854775808) := by
              have e := HX.out
              rw [List.drop_eq_nil_of_le (by omega)] at e
              exact e
            by_cases hh : b1 > a1
            · go_wp2
              go_loopw [50] (fun i wr => ∃ k : Nat, k ≤ zs.length ∧ i = .int .i64 k ∧ ∃ y, WB W wr x y b0 b1 0 0 ∧ hiS b1 (zs.drop k) y = hiS b1 zs 9223372036854775807) (fun i wr => zs.length - (intOf i).toNat)
              case atStart => exact ⟨0, Nat.zero_le _, rfl, _, HBr.out.set1 _, by simp⟩
              case round =>
                obtain ⟨k, hk, rfl, y, hB, hx⟩ := hrel
                have HBs := Lib.hid hB
                have HY := Lib.hid hx
                clear hB hx
                obtain ⟨d1, d2, d3, d4, g1, g2, g3, g4, d5, d6⟩ := HBs.out.cells
                have hbig := HZ.out.big
                by_cases hlt : k < zs.length
                · obtain ⟨b, off, rfl, hbl, hc⟩ := (HZ.out.below HBs.out.bel).at_ k hlt
                  by_cases ht : zs[k] ≥ b1
                  · go_wp2
                    refine ⟨⟨k + 1, by omega, by go_num, _, HBs.out.set1 _, ?_⟩, by simp [intOf, wrap64]; omega⟩
                    rw [← HY.out, hi_step hlt, if_pos ht]
                  · go_wp2
                    refine ⟨⟨k + 1, by omega, by go_num, _, HBs.out, ?_⟩, by simp [intOf, wrap64]; omega⟩
                    rw [← HY.out, hi_step hlt, if_neg ht]
                · go_wp2
                  have hy : y = hiS b1 zs 9223372036854775807 := by
                    have e := HY.out
                    rw [List.drop_eq_nil_of_le (by omega)] at e
                    exact e
                  exact wid_ret HBs.out (by rfl) (by (try rw [hy]); rw [widenI_main (by omega) (by omega), if_pos (by omega), if_pos (by omega)])
            · go_wp2
              exact wid_ret HBr.out (by rfl) (by rw [widenI_main (by omega) (by omega), if_pos (by omega), if_neg (by omega)])
      · skip
        by_cases hh : b1 > a1
        · go_wp2
          go_loopw [50] (fun i wr => ∃ k : Nat, k ≤ zs.length ∧ i = .int .i64 k ∧ ∃ y, WB W wr a0 y b0 b1 0 0 ∧ hiS b1 (zs.drop k) y = hiS b1 zs 9223372036854775807) (fun i wr => zs.length - (intOf i).toNat)
          case atStart => exact ⟨0, Nat.zero_le _, rfl, _, HB2.out.set1 _, by simp⟩
          case round =>
            obtain ⟨k, hk, rfl, y, hB, hx⟩ := hrel
            have HBs := Lib.hid hB
            have HY := Lib.hid hx
            clear hB hx
            obtain ⟨d1, d2, d3, d4, g1, g2, g3, g4, d5, d6⟩ := HBs.out.cells
            have hbig := HZ.out.big
            by_cases hlt : k < zs.length
            · obtain ⟨b, off, rfl, hbl, hc⟩ := (HZ.out.below HBs.out.bel).at_ k hlt
              by_cases ht : zs[k] ≥ b1
              · go_wp2
                refine ⟨⟨k + 1, by omega, by go_num, _, HBs.out.set1 _, ?_⟩, by simp [intOf, wrap64]; omega⟩
                rw [← HY.out, hi_step hlt, if_pos ht]
              · go_wp2
                refine ⟨⟨k + 1, by omega, by go_num, _, HBs.out, ?_⟩, by simp [intOf, wrap64]; omega⟩
                rw [← HY.out, hi_step hlt, if_neg ht]
            · go_wp2
              have hy : y = hiS b1 zs 9223372036854775807 := by
                have e := HY.out
                rw [List.drop_eq_nil_of_le (by omega)] at e
                exact e
              exact wid_ret HBs.out (by rfl) (by (try rw [hy]); rw [widenI_main (by omega) (by omega), if_neg (by omega), if_pos (by omega)])
        · go_wp2
          exact wid_ret HB2.out (by rfl) (by rw [widenI_main (by omega) (by omega), if_neg (by omega), if_neg (by omega)])
end Go.Proofs.YtonpbbhlmapbdaaGreatDoor.V
