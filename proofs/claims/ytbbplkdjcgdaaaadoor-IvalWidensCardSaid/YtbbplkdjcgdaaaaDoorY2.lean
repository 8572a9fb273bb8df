/- ival.Widen by the kit's walk. Conditions: none. -/
import Derived.Test.YtbbplkdjcgdaaaaDoorY1
set_option linter.unusedVariables false
set_option linter.unusedSimpArgs false
namespace Go.Proofs.YtbbplkdjcgdaaaaDoor.V
open Go Go.Wk Go.RowKit

theorem widenI_main {a0 a1 b0 b1 : Int} {zs : List Int} (h : a0 ≤ a1) (h' : b0 ≤ b1) : widenI (a0, a1) (b0, b1) zs = (if b0 < a0 then loS b0 zs (-9223372036854775808) else a0, if b1 > a1 then hiS b1 zs 9223372036854775807 else a1) := by
  unfold widenI
  rw [if_neg (fun q => q.elim (fun e => by simp at e; omega) (fun e => by simp at e; omega))]
def iv (x : Int × Int) : Value := .agg #[.int .i64 x.1, .int .i64 x.2]
theorem c_none {W : World} (hG : GOK G W) (a0 a1 : Int) : Calls P 36 #[.agg #[.int .i64 a0, .int .i64 a1]] W fun e w' => e = .returned (.bool (decide (a0 > a1))) ∧ Below W.heap.size W w' :=
  calls_of (vs := [.agg #[.int .i64 a0, .int .i64 a1]]) (v := .bool (ival_none a0 a1)) law_works.t (g := 36) (F := ival_none.F) rfl hG rfl
theorem c_join {W : World} (hG : GOK G W) (a0 a1 b0 b1 : Int) : Calls P 15 #[.agg #[.int .i64 a0, .int .i64 a1], .agg #[.int .i64 b0, .int .i64 b1]] W fun e w' => e = .returned (.agg #[.int .i64 (ival_Join a0 a1 b0 b1).1, .int .i64 (ival_Join a0 a1 b0 b1).2]) ∧ Below W.heap.size W w' :=
  calls_of (vs := [.agg #[.int .i64 a0, .int .i64 a1], .agg #[.int .i64 b0, .int .i64 b1]]) (v := iv (ival_Join a0 a1 b0 b1)) law_works.t (g := 15) (F := ival_Join.F) rfl hG rfl
set_option maxRecDepth 100000 in
set_option maxHeartbeats 2000000 in
theorem wid_ret {W w : World} {l h b0 b1 x y : Int} {t : Array Value} {R : Int × Int} (B : WB W w l h b0 b1 0 0) (ht : t.getD 6 undef = .pointer (some ⟨W.heap.size + 1 + 1, 0, none⟩)) (hR : (x, y) = R) :
    bodyPost P Tryd.f9 (fun e w' => e = .returned (iv R) ∧ Below W.heap.size W w') .ret ⟨t, []⟩ ((w.setCell ⟨W.heap.size + 1 + 1, 0, none⟩ (.int .i64 x)).setCell ⟨W.heap.size + 1 + 1, 1, none⟩ (.int .i64 y)) := by
  subst hR
  have h1 : ((w.setCell ⟨W.heap.size + 1 + 1, 0, none⟩ (.int .i64 x)).setCell ⟨W.heap.size + 1 + 1, 1, none⟩ (.int .i64 y)).heap[W.heap.size + 1 + 1]? = some (.cells #[.int .i64 x, .int .i64 y] 23 (0, 0)) :=
    (heap_set0 (heap_set0 B.rC)).trans (by simp)
  have c0 : ((w.setCell ⟨W.heap.size + 1 + 1, 0, none⟩ (.int .i64 x)).setCell ⟨W.heap.size + 1 + 1, 1, none⟩ (.int .i64 y)).cell? ⟨W.heap.size + 1 + 1, 0, none⟩ = some (.int .i64 x) := by simp [World.cell?, h1]
  have c1 : ((w.setCell ⟨W.heap.size + 1 + 1, 0, none⟩ (.int .i64 x)).setCell ⟨W.heap.size + 1 + 1, 1, none⟩ (.int .i64 y)).cell? ⟨W.heap.size + 1 + 1, 1, none⟩ = some (.int .i64 y) := by simp [World.cell?, h1]
  have hbel : Below W.heap.size W ((w.setCell ⟨W.heap.size + 1 + 1, 0, none⟩ (.int .i64 x)).setCell ⟨W.heap.size + 1 + 1, 1, none⟩ (.int .i64 y)) := (B.bel.trans (set_bel _ _ (by omega))).trans (set_bel _ _ (by omega))
  have hb := Lib.hid hbel
  clear hbel B h1
  generalize ((w.setCell ⟨W.heap.size + 1 + 1, 0, none⟩ (.int .i64 x)).setCell ⟨W.heap.size + 1 + 1, 1, none⟩ (.int .i64 y)) = w2 at *
  refine ⟨rfl, iv (x, y), ?_, rfl, hb.out⟩
  simp only [Array.getD_eq_getD_getElem?] at ht
  simp [results, Tryd.results9, go_sem, ht, c0, c1, iv]
set_option maxRecDepth 100000 in
set_option maxHeartbeats 4000000 in
theorem wid_walk {W : World} (hG : GOK G W) (a0 a1 b0 b1 : Int) {a : Option Addr} {cap : Nat} {zs : List Int} (hz : Thr W a zs) :
    Calls P 9 #[.agg #[.int .i64 a0, .int .i64 a1], .agg #[.int .i64 b0, .int .i64 b1], .slice a zs.length cap] W fun e w' => e = .returned (iv (widenI (a0, a1) (b0, b1) zs)) ∧ Below W.heap.size W w' := by
  have HB := Lib.hid (WB.start W a0 a1 b0 b1)
  have HG := Lib.hid hG
  have HZ := Lib.hid hz
  clear hG hz
  go_enter Tryd.func9, Tryd.ntmps9
  go_wp2_with (go_at_call 36; refine (c_none (gok_b HG.out (Nat.le_refl _) HB.out.bel) _ _).mono ?_; rintro e W1 ⟨rfl, hb⟩; refine Hid.out ?_)
  have HB1 := Lib.hid (HB.out.below hb)
  clear hb HB
  by_cases ha : a0 > a1
  · rw [decide_eq_true ha]
    obtain ⟨c1, c2, c3, c4, f1, f2, f3, f4, c5, c6⟩ := HB1.out.cells
    refine Lib.hid ?_
    go_wp2_with (go_at_call 15; refine (c_join (gok_b HG.out (Nat.le_refl _) HB1.out.bel) _ _ _ _).mono ?_; rintro e W2 ⟨rfl, hb⟩; refine Hid.out ?_)
    have HB2 := Lib.hid (HB1.out.below hb)
    clear hb HB1 c1 c2 c3 c4 f1 f2 f3 f4 c5 c6
    obtain ⟨c1, c2, c3, c4, f1, f2, f3, f4, c5, c6⟩ := HB2.out.cells
    refine Lib.hid ?_
    go_wp2
    exact wid_ret HB2.out (by rfl) (by unfold widenI; rw [if_pos (.inl ha)])
  · rw [decide_eq_false ha]
    obtain ⟨c1, c2, c3, c4, f1, f2, f3, f4, c5, c6⟩ := HB1.out.cells
    refine Lib.hid ?_
    go_wp2_with (go_at_call 36; refine (c_none (gok_b HG.out (Nat.le_refl _) HB1.out.bel) _ _).mono ?_; rintro e W2 ⟨rfl, hb⟩; refine Hid.out ?_)
    have HB2 := Lib.hid (HB1.out.below hb)
    clear hb HB1 c1 c2 c3 c4 f1 f2 f3 f4 c5 c6
    by_cases hb' : b0 > b1
    · rw [decide_eq_true hb']
      obtain ⟨c1, c2, c3, c4, f1, f2, f3, f4, c5, c6⟩ := HB2.out.cells
      refine Lib.hid ?_
      go_wp2_with (go_at_call 15; refine (c_join (gok_b HG.out (Nat.le_refl _) HB2.out.bel) _ _ _ _).mono ?_; rintro e W3 ⟨rfl, hb⟩; refine Hid.out ?_)
      have HB3 := Lib.hid (HB2.out.below hb)
      clear hb HB2 c1 c2 c3 c4 f1 f2 f3 f4 c5 c6
      obtain ⟨c1, c2, c3, c4, f1, f2, f3, f4, c5, c6⟩ := HB3.out.cells
      refine Lib.hid ?_
      go_wp2
      exact wid_ret HB3.out (by rfl) (by unfold widenI; rw [if_pos (.inr hb')])
    · rw [decide_eq_false hb']
      obtain ⟨c1, c2, c3, c4, f1, f2, f3, f4, c5, c6⟩ := HB2.out.cells
      refine Lib.hid ?_
      by_cases hl : b0 < a0
      · go_wp2
        go_loopw [28] (fun i wr => ∃ k : Nat, k ≤ zs.length ∧ i = .int .i64 k ∧ ∃ x, WB W wr x a1 b0 b1 0 0 ∧ loS b0 (zs.drop k) x = loS b0 zs (-9223372036854775808)) (fun i wr => zs.length - (intOf i).toNat)
        case atStart => exact ⟨0, Nat.zero_le _, rfl, _, HB2.out.set0 _, by simp⟩
        case round =>
          obtain ⟨k, hk, rfl, x, hB, hx⟩ := hrel
          have HBr := Lib.hid hB
          have HX := Lib.hid hx
          clear hB hx c1 c2 c3 c4 f1 f2 f3 f4 c5 c6
          obtain ⟨c1, c2, c3, c4, f1, f2, f3, f4, c5, c6⟩ := HBr.out.cells
          have hbig := HZ.out.big
          by_cases hlt : k < zs.length
          · obtain ⟨b, off, rfl, hbl, hc⟩ := (HZ.out.below HBr.out.bel).at_ k hlt
            by_cases ht : zs[k] ≤ b0
            · go_wp2
              refine ⟨⟨k + 1, by omega, by go_num, _, HBr.out.set0 _, ?_⟩, by simp [intOf, wrap64]; omega⟩
              rw [← HX.out, lo_step hlt, if_pos ht]
            · go_wp2
              refine ⟨⟨k + 1, by omega, by go_num, _, HBr.out, ?_⟩, by simp [intOf, wrap64]; omega⟩
              rw [← HX.out, lo_step hlt, if_neg ht]
          · have hxv : x = loS b0 zs (-9223372036854775808) := by
              have e := HX.out
              rw [List.drop_eq_nil_of_le (by omega)] at e
              exact e
            by_cases hh : b1 > a1
            · go_wp2
              go_loopw [50] (fun i wr => ∃ k : Nat, k ≤ zs.length ∧ i = .int .i64 k ∧ ∃ y, WB W wr x y b0 b1 0 0 ∧ hiS b1 (zs.drop k) y = hiS b1 zs 9223372036854775807) (fun i wr => zs.length - (intOf i).toNat)
              case atStart => exact ⟨0, Nat.zero_le _, rfl, _, HBr.out.set1 _, by simp⟩
              case round =>
                obtain ⟨k, hk, rfl, y, hB, hx⟩ := hrel
                have HBs := Lib.hid hB
                have HY := Lib.hid hx
                clear hB hx
                obtain ⟨d1, d2, d3, d4, g1, g2, g3, g4, d5, d6⟩ := HBs.out.cells
                have hbig := HZ.out.big
                by_cases hlt : k < zs.length
                · obtain ⟨b, off, rfl, hbl, hc⟩ := (HZ.out.below HBs.out.bel).at_ k hlt
                  by_cases ht : zs[k] ≥ b1
                  · go_wp2
                    refine ⟨⟨k + 1, by omega, by go_num, _, HBs.out.set1 _, ?_⟩, by simp [intOf, wrap64]; omega⟩
                    rw [← HY.out, hi_step hlt, if_pos ht]
                  · go_wp2
                    refine ⟨⟨k + 1, by omega, by go_num, _, HBs.out, ?_⟩, by simp [intOf, wrap64]; omega⟩
                    rw [← HY.out, hi_step hlt, if_neg ht]
                · go_wp2
                  have hy : y = hiS b1 zs 9223372036854775807 := by
                    have e := HY.out
                    rw [List.drop_eq_nil_of_le (by omega)] at e
                    exact e
                  exact wid_ret HBs.out (by rfl) (by (try rw [hy]); rw [widenI_main (by omega) (by omega), if_pos (by omega), if_pos (by omega)])
            · go_wp2
              exact wid_ret HBr.out (by rfl) (by rw [widenI_main (by omega) (by omega), if_pos (by omega), if_neg (by omega)])
      · skip
        by_cases hh : b1 > a1
        · go_wp2
          go_loopw [50] (fun i wr => ∃ k : Nat, k ≤ zs.length ∧ i = .int .i64 k ∧ ∃ y, WB W wr a0 y b0 b1 0 0 ∧ hiS b1 (zs.drop k) y = hiS b1 zs 9223372036854775807) (fun i wr => zs.length - (intOf i).toNat)
          case atStart => exact ⟨0, Nat.zero_le _, rfl, _, HB2.out.set1 _, by simp⟩
          case round =>
            obtain ⟨k, hk, rfl, y, hB, hx⟩ := hrel
            have HBs := Lib.hid hB
            have HY := Lib.hid hx
            clear hB hx
            obtain ⟨d1, d2, d3, d4, g1, g2, g3, g4, d5, d6⟩ := HBs.out.cells
            have hbig := HZ.out.big
            by_cases hlt : k < zs.length
            · obtain ⟨b, off, rfl, hbl, hc⟩ := (HZ.out.below HBs.out.bel).at_ k hlt
              by_cases ht : zs[k] ≥ b1
              · go_wp2
                refine ⟨⟨k + 1, by omega, by go_num, _, HBs.out.set1 _, ?_⟩, by simp [intOf, wrap64]; omega⟩
                rw [← HY.out, hi_step hlt, if_pos ht]
              · go_wp2
                refine ⟨⟨k + 1, by omega, by go_num, _, HBs.out, ?_⟩, by simp [intOf, wrap64]; omega⟩
                rw [← HY.out, hi_step hlt, if_neg ht]
            · go_wp2
              have hy : y = hiS b1 zs 9223372036854775807 := by
                have e := HY.out
                rw [List.drop_eq_nil_of_le (by omega)] at e
                exact e
              exact wid_ret HBs.out (by rfl) (by (try rw [hy]); rw [widenI_main (by omega) (by omega), if_neg (by omega), if_pos (by omega)])
        · go_wp2
          exact wid_ret HB2.out (by rfl) (by rw [widenI_main (by omega) (by omega), if_neg (by omega), if_neg (by omega)])
end Go.Proofs.YtbbplkdjcgdaaaaDoor.V
