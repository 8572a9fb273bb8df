/- IvalHulls: its walk. Conditions: none. -/
import Derived.Test.YtbbplkdjcgdaaaaDoorX2
import Derived.Deep.QuietTactic
import Derived.BigQuiet
import Derived.Deep.CutRange
set_option linter.unusedVariables false
set_option linter.unusedSimpArgs false
namespace Go.Proofs.YtbbplkdjcgdaaaaDoor.V
open Go Go.Wk Go.RowKit

abbrev iv2 (x y : Int) : Array Value := #[.int .i64 x, .int .i64 y]
structure H6 (W w : World) (A B : Nat) (a b c d : Int) : Prop where
  bel : Below W.heap.size W w
  lA : W.heap.size ≤ A
  lB : A < B
  hi : B < w.heap.size
  rA : w.heap[A]? = some (.cells (iv2 a b) 23 (0, 0))
  rB : w.heap[B]? = some (.cells (iv2 c d) 23 (0, 0))
theorem H6.below {W w w' : World} {A B : Nat} {a b c d : Int} (h : H6 W w A B a b c d) (hb : Below w.heap.size w w') : H6 W w' A B a b c d where
  bel := h.bel.trans (hb.mono h.bel.size)
  lA := h.lA
  lB := h.lB
  hi := Nat.lt_of_lt_of_le h.hi hb.size
  rA := (hb.block _ (by have := h.hi; have := h.lB; omega)).trans h.rA
  rB := (hb.block _ h.hi).trans h.rB
structure H7 (W w : World) (A B G H : Nat) (a b c d g0 g1 h0 h1 : Int) : Prop where
  b6 : H6 W w A B a b c d
  lG : B < G
  lH : G < H
  hi : H < w.heap.size
  rG : w.heap[G]? = some (.cells (iv2 g0 g1) 23 (0, 0))
  rH : w.heap[H]? = some (.cells (iv2 h0 h1) 23 (0, 0))
theorem H7.below {W w w' : World} {A B G H : Nat} {a b c d g0 g1 h0 h1 : Int} (h : H7 W w A B G H a b c d g0 g1 h0 h1) (hb : Below w.heap.size w w') : H7 W w' A B G H a b c d g0 g1 h0 h1 where
  b6 := h.b6.below hb
  lG := h.lG
  lH := h.lH
  hi := Nat.lt_of_lt_of_le h.hi hb.size
  rG := (hb.block _ (by have := h.hi; have := h.lH; omega)).trans h.rG
  rH := (hb.block _ h.hi).trans h.rH
theorem heap_set_ {w : World} {b i : Nat} {v : Value} {cs : Array Value} {t : TypeId} (h : w.heap[b]? = some (.cells cs t (0, 0))) : (w.setCell ⟨b, i, none⟩ v).heap[b]? = some (.cells (cs.setIfInBounds i v) t (0, 0)) := heap_setCell_same w b i cs t v h
theorem heap_far {w : World} {b b' i : Nat} {v : Value} (h : b' ≠ b) : (w.setCell ⟨b, i, none⟩ v).heap[b']? = w.heap[b']? := heap_setCell_other w _ _ _ (by simpa using h)
theorem set_bel (w : World) {n b i : Nat} (v : Value) (h : n ≤ b) : Below n w (w.setCell ⟨b, i, none⟩ v) := (Below.refl n w).setCell (by simpa using h) v
theorem H7.set {W w : World} {A B G H : Nat} {a b c d g0 g1 h0 h1 : Int} (h : H7 W w A B G H a b c d g0 g1 h0 h1) (x y : Int) :
    H7 W ((w.setCell ⟨H, 0, none⟩ (.int .i64 x)).setCell ⟨H, 1, none⟩ (.int .i64 y)) A B G H a b c d g0 g1 x y := by
  have hA := h.b6.lA
  have hB := h.b6.lB
  have hG := h.lG
  have hH := h.lH
  refine ⟨⟨(h.b6.bel.trans (set_bel w _ (by omega))).trans (set_bel _ _ (by omega)), hA, hB, by have := h.b6.hi; simpa using this, ?_, ?_⟩, hG, hH, by have := h.hi; simpa using this, ?_, ?_⟩
  · rw [heap_far (by omega), heap_far (by omega)]; exact h.b6.rA
  · rw [heap_far (by omega), heap_far (by omega)]; exact h.b6.rB
  · rw [heap_far (by omega), heap_far (by omega)]; exact h.rG
  · exact heap_set_ (heap_set_ h.rH)
theorem own_set {w : World} {base : Nat} {e : TypeId} {size : Nat} {v u : Value} {n : Nat} {xs : List Value} {H i : Nat} (h : w.ownsRow base e size v n xs) (hH : H < base) : (w.setCell ⟨H, i, none⟩ u).ownsRow base e size v n xs :=
  ⟨h.1, by
    rcases h.2 with h' | ⟨g, cap, cur, hv, hb', hg, rest⟩
    · exact .inl h'
    · exact .inr ⟨g, cap, cur, hv, hb', (heap_far (by omega)).trans hg, rest⟩⟩
theorem own_mono {w : World} {base base' : Nat} {e : TypeId} {size : Nat} {v : Value} {n : Nat} {xs : List Value} (h : w.ownsRow base e size v n xs) (hb : base' ≤ base) : w.ownsRow base' e size v n xs :=
  ⟨h.1, by
    rcases h.2 with h' | ⟨g, cap, cur, hv, hb', hg, rest⟩
    · exact .inl h'
    · exact .inr ⟨g, cap, cur, hv, by omega, hg, rest⟩⟩
theorem own_head {w : World} {base : Nat} {e : TypeId} {v : Value} {n : Nat} {xs : List Value} (h : w.ownsRow base e 1 v (n + 1) xs) : ∃ g cap, v = .slice (some ⟨g, 0, none⟩) (n + 1) cap ∧ base ≤ g := by
  rcases h.2 with ⟨_, h'⟩ | ⟨g, cap, cur, hv, hb', _⟩
  · omega
  · exact ⟨g, cap, hv, hb'⟩
set_option maxRecDepth 100000 in
set_option maxHeartbeats 8000000 in
theorem hulls_walk {W : World} (hG : GOK G W) {x b y o : Int} (hx : I64 x) (hb : I64 b) (hy : I64 y) (ho : I64 o) : Calls P 6 #[.int .i64 x, .int .i64 b, .int .i64 y, .int .i64 o] W fun e w' => e = .returned (.bool true) ∧ Below W.heap.size W w' := by
  obtain ⟨l, n, hn, es, il, ih⟩ := short_s' hx hb
  obtain ⟨l', n', hn', es', il', ih'⟩ := short_s' hy ho
  have HE := Lib.hid es
  have HE' := Lib.hid es'
  have HG := Lib.hid hG
  clear hG es es' hx hb hy ho
  unfold I64 at il ih il' ih'
  go_enter Tryd.func6, Tryd.ntmps6
  go_wp2_with (go_at_call 8; refine (k_works HG.out).mono ?_; rintro e W1 ⟨rfl, hb⟩; refine Hid.out ?_)
  have B1 := Lib.hid hb
  clear hb
  refine Lib.hid ?_
  go_wp2_with (go_at_call 31; refine (k_short (gok_b HG.out (Nat.le_refl _) B1.out) x b).mono ?_; rintro e W2 ⟨rfl, hb⟩; rw [HE.out]; refine Hid.out ?_)
  have B2 := Lib.hid (B1.out.trans (hb.mono B1.out.size))
  clear hb B1
  refine Lib.hid ?_
  have BA := Lib.hid (allocB W2 (.cells (iv2 l (l + n)) 23))
  go_wp2_with (go_at_call 31; refine (k_short (gok_b HG.out (Nat.le_refl _) (B2.out.trans (BA.out.mono B2.out.size))) y o).mono ?_; rintro e W3 ⟨rfl, hb⟩; rw [HE'.out]; refine Hid.out ?_)
  have H0 := Lib.hid (⟨(B2.out.trans (BA.out.mono B2.out.size)).trans ((hb.mono (by have := BA.out.size; have := B2.out.size; omega)).trans ((allocB W3 _).mono (by have := BA.out.size; have := B2.out.size; have := hb.size; omega))), B2.out.size,
    Nat.lt_of_lt_of_le (allocL _ _) hb.size, allocL _ _, ((allocB W3 _).block _ (Nat.lt_of_lt_of_le (allocL _ _) hb.size)).trans ((hb.block _ (allocL _ _)).trans (allocR _ _)), allocR _ _⟩ :
      H6 W (W3.alloc (.cells (iv2 l' (l' + n')) 23)) W2.heap.size W3.heap.size l (l + n) l' (l' + n'))
  clear hb BA B2 HE HE'
  generalize W2.heap.size = A at *
  refine Lib.hid ?_
  go_wp2
  go_loopw [11] (fun i wr => ∃ k : Nat, k ≤ 6 ∧ i = .int .i64 k ∧ H6 W wr A W3.heap.size l (l + n) l' (l' + n')) (fun i _ => 6 - (intOf i).toNat)
  case atStart => exact ⟨0, by omega, rfl, H0.out⟩
  case round =>
    obtain ⟨k, hk, rfl, hL⟩ := hrel
    have HR := Lib.hid hL
    clear hL H0
    by_cases hlt : k < 6
    · have hl2 : ((k : Nat) : Int) < 6 := by omega
      obtain ⟨a0, a1, f0, f1⟩ := cells2 HR.out.rA
      obtain ⟨b0, b1, f2, f3⟩ := cells2 HR.out.rB
      clear f0 f1 f2 f3
      go_wp2_with (go_at_call 32; refine (k_asked (gok_b HG.out (Nat.le_refl _) HR.out.bel) k l (l + n) l' (l' + n')).mono ?_; rintro e W4 ⟨rfl, hb⟩; refine Hid.out ?_)
      have HB := Lib.hid (HR.out.below hb)
      clear hb a0 a1 b0 b1 HR
      refine Lib.hid ?_
      have HT := Lib.hid (told_all (how := (k : Int)) il ih il' ih' (by omega) (by omega) (by omega) (by omega))
      generalize hq : law_asked (k : Int) l (l + n) l' (l' + n') = q at *
      have HQ := Lib.hid hq
      clear hq
      obtain ⟨g0, g1, ex⟩ := q
      have H7a := Lib.hid (⟨(HB.out.below (allocB W4 (.cells (iv2 g0 g1) 23))).below (allocB _ (.cells (iv2 1 0) 23)), HB.out.hi, allocL _ _, allocL _ _, ((allocB _ _).block _ (allocL _ _)).trans (allocR _ _), allocR _ _⟩ :
        H7 W ((W4.alloc (.cells (iv2 g0 g1) 23)).alloc (.cells (iv2 1 0) 23)) A W3.heap.size W4.heap.size (W4.alloc (.cells (iv2 g0 g1) 23)).heap.size l (l + n) l' (l' + n') g0 g1 1 0)
      have lA := HB.out.lA
      have lB := HB.out.lB
      have lC := HB.out.hi
      have lD : A < W4.heap.size := by omega
      clear lA lB
      obtain ⟨a0, a1, f0, f1⟩ := cells2 HB.out.rA
      clear f0 f1
      go_wp2_with (go_at_call 33; refine (list_walk _ n il ih rfl hn).mono ?_; rintro e W5 ⟨v5, rfl, hb, hown⟩; refine Hid.out ?_)
      obtain ⟨gv, cv, rfl, hge⟩ := own_head hown
      have H7b := Lib.hid (H7a.out.below hb)
      have HO5 := Lib.hid hown
      have hs1 : W4.heap.size + 2 < gv := by simp at hge; omega
      clear hb hown HB H7a a0 a1 lC lD hge
      refine Lib.hid ?_
      go_wp2
      go_loopw [15, 46] (fun wv i wx => ∃ (k2 : Nat) (h0 h1 : Int) (wb : Bool), k2 ≤ n + 1 ∧ i = .int .i64 k2 ∧ wv = .bool wb ∧ H7 W wx A W3.heap.size W4.heap.size (W4.heap.size + 1) l (l + n) l' (l' + n') g0 g1 h0 h1 ∧
        wx.ownsRow (W4.heap.size + 3) 2 1 (.slice (some ⟨gv, 0, none⟩) (n + 1) cv) (n + 1) (nums l (n + 1)) ∧ Inv k l (l + n) l' (l' + n') k2 0 h0 h1 wb) (fun _ i _ => n + 1 - (intOf i).toNat)
      case atStart => exact ⟨0, 1, 0, false, by omega, rfl, rfl, by simpa using H7b.out, by simpa using HO5.out, inv_start _ _ _ _ _⟩
      case round =>
        obtain ⟨k2, h0, h1, wb, hk2, rfl, rfl, hL7, hL5, hI⟩ := hrel
        have HR7 := Lib.hid hL7
        have HR5 := Lib.hid hL5
        have HI := Lib.hid hI
        clear hL7 hL5 hI H7b HO5
        by_cases hlt2 : k2 < n + 1
        · have hc2 : wr.cell? ⟨gv, k2, none⟩ = some (.int .i64 (l + (k2 : Nat))) := by rw [HR5.out.cellAt k2 (by omega), nums_at l hlt2]
          obtain ⟨b0, b1, f2, f3⟩ := cells2 HR7.out.b6.rB
          clear f2 f3
          have hsz := HR7.out.hi
          go_wp2_with (go_at_call 33; refine (list_walk _ n' il' ih' rfl hn').mono ?_; rintro e W6 ⟨v6, rfl, hb, hown⟩; refine Hid.out ?_)
          obtain ⟨gw, cw, rfl, hgw⟩ := own_head hown
          have H8 := Lib.hid (HR7.out.below hb)
          have H8o := Lib.hid (own_below HR5.out hb)
          have H8p := Lib.hid (own_mono hown (base' := W4.heap.size + 2) (by omega))
          clear hb hown hgw HR7 HR5 b0 b1 hc2 hsz
          refine Lib.hid ?_
          go_wp2
          go_loopw [15, 53] (fun wv i wx => ∃ (k3 : Nat) (h0 h1 : Int) (wb : Bool), k3 ≤ n' + 1 ∧ i = .int .i64 k3 ∧ wv = .bool wb ∧ H7 W wx A W3.heap.size W4.heap.size (W4.heap.size + 1) l (l + n) l' (l' + n') g0 g1 h0 h1 ∧
            wx.ownsRow (W4.heap.size + 3) 2 1 (.slice (some ⟨gv, 0, none⟩) (n + 1) cv) (n + 1) (nums l (n + 1)) ∧ wx.ownsRow (W4.heap.size + 2) 2 1 (.slice (some ⟨gw, 0, none⟩) (n' + 1) cw) (n' + 1) (nums l' (n' + 1)) ∧
            Inv k l (l + n) l' (l' + n') k2 k3 h0 h1 wb) (fun _ i _ => n' + 1 - (intOf i).toNat)
          case atStart => exact ⟨0, h0, h1, wb, by omega, rfl, rfl, H8.out, H8o.out, H8p.out, HI.out⟩
          case round =>
            obtain ⟨k3, i0, i1, wc, hk3, rfl, rfl, hL7, hL5, hL6, hI⟩ := hrel
            have HR7 := Lib.hid hL7
            have HR5 := Lib.hid hL5
            have HR6 := Lib.hid hL6
            have HJ := Lib.hid hI
            clear hL7 hL5 hL6 hI H8 H8o H8p HI
            by_cases hlt3 : k3 < n' + 1
            · have hc3 : wr.cell? ⟨gw, k3, none⟩ = some (.int .i64 (l' + (k3 : Nat))) := by rw [HR6.out.cellAt k3 (by omega), nums_at l' hlt3]
              go_wp2_with (go_at_call 34; refine (k_done (gok_b HG.out (Nat.le_refl _) HR7.out.b6.bel) k (x := l + (k2 : Nat)) (y := l' + (k3 : Nat)) (by unfold I64; omega) (by unfold I64; omega)).mono ?_; rintro e W7 ⟨rfl, hb⟩; refine Hid.out ?_)
              have G7 := Lib.hid (HR7.out.below hb)
              have G5 := Lib.hid (own_below HR5.out hb)
              have G6 := Lib.hid (own_below HR6.out hb)
              have K1 := Lib.hid (fun ht => inv_step HJ.out (by omega) (by omega) ht)
              have K2 := Lib.hid (fun ht => inv_skip HJ.out ht)
              clear hb HR7 HR5 HR6 hc3 HJ
              refine Lib.hid ?_
              generalize doneS (k : Int) (l + (k2 : Nat)) (l' + (k3 : Nat)) = q at *
              obtain ⟨r, th, wp⟩ := q
              cases th with
              | false =>
                go_wp2
                exact ⟨⟨k3 + 1, i0, i1, wc, by omega, by go_num, rfl, G7.out, G5.out, G6.out, K2.out rfl⟩, by simp [intOf]; omega⟩
              | true =>
                have K3 := Lib.hid (K1.out rfl)
                clear K1 K2
                obtain ⟨c0, c1, f0, f1⟩ := cells2 G7.out.rH
                have hs7 := G7.out.hi
                by_cases hgt : i0 > i1
                · have e : hstep (i0, i1) r = (r, r) := by unfold hstep; rw [if_pos hgt]
                  have K4 : Hid (Inv k l (l + n) l' (l' + n') k2 (k3 + 1) r r (wc || wp)) := by have := K3.out; rw [e] at this; exact this
                  have S1 := Lib.hid ((G7.out.set r r).set r r)
                  have S5 := Lib.hid (own_set (H := W4.heap.size + 1) (i := 1) (u := .int .i64 r) (own_set (H := W4.heap.size + 1) (i := 0) (u := .int .i64 r) (own_set (H := W4.heap.size + 1) (i := 1) (u := .int .i64 r) (own_set (H := W4.heap.size + 1) (i := 0) (u := .int .i64 r) G5.out (by omega)) (by omega)) (by omega)) (by omega))
                  have S6 := Lib.hid (own_set (H := W4.heap.size + 1) (i := 1) (u := .int .i64 r) (own_set (H := W4.heap.size + 1) (i := 0) (u := .int .i64 r) (own_set (H := W4.heap.size + 1) (i := 1) (u := .int .i64 r) (own_set (H := W4.heap.size + 1) (i := 0) (u := .int .i64 r) G6.out (by omega)) (by omega)) (by omega)) (by omega))
                  clear e K3 G5 G6
                  cases wc <;> cases wp
                  all_goals
                    go_wp2
                    exact ⟨⟨k3 + 1, r, r, _, by omega, by go_num, rfl, by first | exact S1.out | simpa using S1.out, by first | exact S5.out | simpa using S5.out, by first | exact S6.out | simpa using S6.out, K4.out⟩, by simp [intOf]; omega⟩
                · have e : hstep (i0, i1) r = (if r < i0 then r else i0, if i1 < r then r else i1) := by
                    unfold hstep; rw [if_neg hgt]; simp only
                    congr 1 <;> split <;> omega
                  have K4 : Hid (Inv k l (l + n) l' (l' + n') k2 (k3 + 1) (if r < i0 then r else i0) (if i1 < r then r else i1) (wc || wp)) := by have := K3.out; rw [e] at this; exact this
                  have S1 := Lib.hid (G7.out.set (if r < i0 then r else i0) (if i1 < r then r else i1))
                  have S5 := Lib.hid (own_set (H := W4.heap.size + 1) (i := 1) (u := .int .i64 (if i1 < r then r else i1)) (own_set (H := W4.heap.size + 1) (i := 0) (u := .int .i64 (if r < i0 then r else i0)) G5.out (by omega)) (by omega))
                  have S6 := Lib.hid (own_set (H := W4.heap.size + 1) (i := 1) (u := .int .i64 (if i1 < r then r else i1)) (own_set (H := W4.heap.size + 1) (i := 0) (u := .int .i64 (if r < i0 then r else i0)) G6.out (by omega)) (by omega))
                  clear e K3 G5 G6
                  cases wc <;> cases wp
                  all_goals
                    go_wp2
                    exact ⟨⟨k3 + 1, (if r < i0 then r else i0), (if i1 < r then r else i1), _, by omega, by go_num, rfl, by first | exact S1.out | simpa using S1.out, by first | exact S5.out | simpa using S5.out, by first | exact S6.out | simpa using S6.out, K4.out⟩, by simp [intOf]; omega⟩
            · obtain rfl : k3 = n' + 1 := by omega
              go_wp2
              exact ⟨⟨k2 + 1, i0, i1, wc, by omega, by go_num, rfl, HR7.out, HR5.out, inv_row HJ.out rfl⟩, by simp [intOf]; omega⟩
        · obtain rfl : k2 = n + 1 := by omega
          obtain ⟨t1, t2⟩ := inv_end HI.out rfl
          have hqq := HQ.out
          have CK := check_ok HT.out t1 t2
          rw [hqq] at CK
          simp only at CK
          clear t1 t2 hqq
          obtain ⟨c1, c2, c3, c4, c5⟩ := CK
          have hs7 := HR7.out.hi
          obtain ⟨a0, a1, f0, f1⟩ := cells2 HR7.out.rH
          obtain ⟨b0, b1, f2, f3⟩ := cells2 HR7.out.rG
          clear f0 f1 f2 f3 HT HQ HI
          have hk6 : k = 3 ∨ k = 5 ∨ (k ≠ 3 ∧ k ≠ 5) := by omega
          have hl6 : (k : Int) + 1 ≤ 6 := by omega
          by_cases heq : (g0, g1) = (h0, h1)
          · simp only [Prod.mk.injEq] at heq
            obtain ⟨rfl, rfl⟩ := heq
            clear c2 c3 c4 c5
            have HC1 := Lib.hid c1
            clear c1
            by_cases hle : g0 ≤ g1
            · have hng : ¬ g0 > g1 := by omega
              rcases hk6 with rfl | rfl | ⟨n3, n5⟩
              · cases wb <;> cases ex <;> first
                  | exact absurd HC1.out (by decide)
                  | (clear HC1
                     go_wp2
                     exact ⟨⟨4, by omega, rfl, HR7.out.b6⟩, by simp [intOf]⟩)
              · cases wb <;> cases ex <;> first
                  | exact absurd HC1.out (by decide)
                  | (clear HC1
                     go_wp2
                     exact ⟨⟨6, by omega, rfl, HR7.out.b6⟩, by simp [intOf]⟩)
              · have e3 : (((k : Nat) : Int) == 3) = false := by simp; omega
                have d3 : (((k : Nat) : Int) != 3) = true := by simp; omega
                have e5 : (((k : Nat) : Int) == 5) = false := by simp; omega
                have d5 : (((k : Nat) : Int) != 5) = true := by simp; omega
                cases wb <;> cases ex <;> first
                  | exact absurd HC1.out (by decide)
                  | (clear HC1
                     go_wp2
                     exact ⟨⟨k + 1, by omega, by go_num, HR7.out.b6⟩, by simp [intOf]; omega⟩)
            · have hng : g0 > g1 := by omega
              rcases hk6 with rfl | rfl | ⟨n3, n5⟩
              · cases wb <;> cases ex <;> first
                  | exact absurd HC1.out (by decide)
                  | (clear HC1
                     go_wp2
                     exact ⟨⟨4, by omega, rfl, HR7.out.b6⟩, by simp [intOf]⟩)
              · cases wb <;> cases ex <;> first
                  | exact absurd HC1.out (by decide)
                  | (clear HC1
                     go_wp2
                     exact ⟨⟨6, by omega, rfl, HR7.out.b6⟩, by simp [intOf]⟩)
              · have e3 : (((k : Nat) : Int) == 3) = false := by simp; omega
                have d3 : (((k : Nat) : Int) != 3) = true := by simp; omega
                have e5 : (((k : Nat) : Int) == 5) = false := by simp; omega
                have d5 : (((k : Nat) : Int) != 5) = true := by simp; omega
                cases wb <;> cases ex <;> first
                  | exact absurd HC1.out (by decide)
                  | (clear HC1
                     go_wp2
                     exact ⟨⟨k + 1, by omega, by go_num, HR7.out.b6⟩, by simp [intOf]; omega⟩)
          · have hle : h0 ≤ h1 := by
              by_cases g : h1 < h0
              · exact absurd (c4 g) heq
              · omega
            obtain ⟨q1, q2⟩ := c3 hle
            have hng : ¬ h0 > h1 := by omega
            have q3 : ¬ g0 > h0 := by omega
            have q4 : ¬ g1 < h1 := by omega
            rcases hk6 with rfl | rfl | ⟨n3, n5⟩
            · cases wb with
              | false => exact absurd (c5 rfl rfl) heq
              | true =>
                cases ex with
                | true => exact absurd c1 (by decide)
                | false =>
                  clear c1 c2 c3 c4 c5 heq
                  go_wp2
                  exact ⟨⟨4, by omega, rfl, HR7.out.b6⟩, by simp [intOf]⟩
            · cases wb <;> cases ex <;> first
                | exact absurd c1 (by decide)
                | (clear c1 c2 c3 c4 c5 heq
                   go_wp2
                   exact ⟨⟨6, by omega, rfl, HR7.out.b6⟩, by simp [intOf]⟩)
            · exact absurd (c2 (by omega) (by omega)) heq
    · obtain rfl : k = 6 := by omega
      go_wp2
      go_ret
      exact ⟨rfl, HR.out.bel⟩
end Go.Proofs.YtbbplkdjcgdaaaaDoor.V
