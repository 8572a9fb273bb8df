/- IvalWidens: its walk. Conditions: none. -/
import Derived.Test.YtbbplkdjcgdaaaaDoorY5
import Derived.WideShapes
import Derived.ArgAppend
import Derived.Deep.QuietTactic
import Derived.BigQuiet
import Derived.Deep.CutRange
import Derived.Deep.RegionHeld3
set_option linter.unusedVariables false
set_option linter.unusedSimpArgs false
namespace Go.Proofs.YtbbplkdjcgdaaaaDoor.V
open Go Go.Wk Go.RowKit

theorem vals_at {w : World} {p : Addr} {zs : List Int} (h : Thr w (some p) zs) : ∀ (j : Nat) (u : Value), (vals zs)[j]? = some u → w.cell? (p.add j) = some u := by
  intro j u hu
  have hj : j < zs.length := by
    have := (List.getElem?_eq_some_iff.1 hu).1
    simpa [vals] using this
  obtain ⟨b, off, e, _, hc⟩ := h.at_ j hj
  cases e
  rw [Go.WideShapes.add_plain, hc]
  rw [← hu]
  simp [vals, hj]
theorem vals_one {zs : List Int} : ∀ u ∈ vals zs, u.oneCell' = true := by
  intro u hu
  simp only [vals, List.mem_map] at hu
  obtain ⟨z, _, rfl⟩ := hu
  rfl
theorem allocTwo (w : World) (o o' : Obj) (n : Nat) (h : n ≤ w.heap.size) : Below n w ((w.alloc o).alloc o') := ((allocB w o).mono h).trans ((allocB (w.alloc o) o').mono (Nat.le_trans h (allocB w o).size))
theorem OW.made {W w w1 w2 w3 : World} {x : Int × Int} {zs : List Int} {v1 v2 : Value} (hbW : Below W.heap.size W w) (hA : w.heap[W.heap.size]? = some (.cells (ivc x) 23 (0, 0)))
    (o1 : w1.ownsRow (W.heap.size + 1) 2 1 v1 zs.length (vals zs)) (b1 : Below (W.heap.size + 1) w w1) (b2 : Below w1.heap.size w1 w2) (o2 : w3.ownsRow (W.heap.size + 1) 2 1 v2 (zs.length + 1) (vals zs ++ [.int .i64 77])) (g2 : w2.grownBy w3 v1.ownBlock) (hs : W.heap.size + 1 ≤ w.heap.size) :
    ∃ g cap, v2 = .slice (some ⟨g, 0, none⟩) (zs.length + 1) cap ∧ OW W w3 x g cap zs := by
  have hb3 : Below (W.heap.size + 1) w2 w3 := grown_keep g2 (by have := b1.size; have := b2.size; omega) (fun k hk => by
    rcases o1.2 with ⟨rfl, _⟩ | ⟨g, cap, cur, rfl, hg, _⟩
    · simp [Value.ownBlock] at hk
    · simp [Value.ownBlock] at hk; omega)
  have hb : Below (W.heap.size + 1) w w3 := (b1.trans (b2.mono (by have := b1.size; omega))).trans hb3
  rcases o2.2 with ⟨_, h0⟩ | ⟨g, cap, cur, rfl, hg, hh, hle, hm, hc, ht⟩
  · omega
  · refine ⟨g, cap, rfl, hbW.trans (hb.mono (by omega)), (hb.block _ (by omega)).trans hA, by omega, (Array.getElem?_eq_some_iff.1 hh).1, ⟨cur, hh, by simpa using hc, by simpa using ht⟩, hle, hm⟩
theorem belA {w w' : World} (h : Below w.heap.size w w') (o : Obj) : Below w.heap.size w (w'.alloc o) := h.alloc h.size o
theorem run_app {ρ : Operand → Value} {o : Oper} {s t : Operand} {w : World} {q p : Addr} {cap : Nat} {ys : List Int} (ho : o.op = .call { callee := .builtin .append, args := #[s, t], argTypes := #[24, 24] }) (hs : ρ s = .slice (some q) 0 0) (ht : ρ t = .slice (some p) ys.length cap) (h : Thr w (some p) ys) (hb8 : ys.length * 8 ≤ 140737488351232) :
    ∃ v' w', (execOp ρ o).run P w = .ok (.value v') w' ∧ Below w.heap.size w w' ∧ ∃ q' c', v' = .slice q' ys.length c' ∧ Thr w' q' ys := by
  obtain ⟨i0, hi, hz0, hz1, hz2⟩ := info_parts info2
  by_cases he : ys = []
  · subst he
    have hrun : ∃ w', (execOp ρ o).run P w = .ok (.value (.slice (some q) 0 0)) w' ∧ Below w.heap.size w w' := by
      refine ⟨w, ?_, Below.refl _ _⟩
      simp [execOp, ho, resolve, invoke, builtin, hs, ht, Result.andThen]
      go_simp
    obtain ⟨w', h1, h2⟩ := hrun
    exact ⟨_, w', h1, h2, some q, 0, rfl, ⟨by simp, fun i hi => by simp at hi⟩⟩
  · have hpos : 0 < ys.length := List.length_pos_iff.2 he
    obtain ⟨v', w', hrun, r1, r2⟩ := run_append_arg_grows (P := P) w 24 o.type 2 i0 (.int .i64 0) 1 8 Tryd.underlying24 hi hz0 hz1 hz2 rfl (by decide) q 0 0 [] rfl (by intro j u hu; simp at hu) p ys.length cap (vals ys) (by simp [vals]) (vals_at h) (by omega) (by have : maxLen = 9223372036854775807 := rfl; omega) (by omega)
    refine ⟨v', w', by simp [execOp, ho, resolve, invoke, builtin, hs, ht, hrun, Result.andThen], ⟨r2.os, r2.tape, r2.output, r2.size, fun k hk => r2.block k hk (by simp)⟩, ?_⟩
    rcases r1.2 with ⟨_, h0⟩ | ⟨g', cap', cur, rfl, hg, hh, hle, hm, hc, htk⟩
    · omega
    · refine ⟨some ⟨g', 0, none⟩, cap', by simp, ⟨by omega, fun i hi => ⟨g', 0, rfl, (Array.getElem?_eq_some_iff.1 hh).1, ?_⟩⟩⟩
      have e : cur.toList[i]? = (vals ys)[i]? := by
        have e2 : cur.toList.take ys.length = vals ys := by simpa using htk
        rw [← e2, List.getElem?_take_of_lt hi]
      simp only [World.cell?, hh, Nat.zero_add]
      simpa [vals, hi] using e
/-- the same, as a step of a region that draws its order -/
theorem step_app {ops : Array Oper} {o : Oper} {a : Act} {w : World} {K : Act → World → Prop} {Q : Exit → Act → World → Prop} {E : Prop} (hgd : o.guard = none) (s t : Operand) (ho : o.op = .call { callee := .builtin .append, args := #[s, t], argTypes := #[24, 24] })
    {q p : Addr} {n cap : Nat} {ys : List Int} (hs : a.eval s = .slice (some q) 0 0) (ht : a.eval t = .slice (some p) n cap) (hn : ys.length = n) (h : Thr w (some p) ys) (hb8 : ys.length * 8 ≤ 140737488351232)
    (hK : ∀ q' c' w', Below w.heap.size w w' → Thr w' q' ys → K (a.put o.dst (.slice q' n c')) w') : if Region.wanted o (yielded ops a.tmps) = true then Oper.wp P o a w K Q else E := by
  subst hn
  have hw : Region.wanted o (yielded ops a.tmps) = true := by simp [Region.wanted, hgd]
  rw [if_pos hw]
  obtain ⟨v', w', hr, hb, q', c', rfl, h'⟩ := run_app ho hs ht h hb8
  unfold Oper.wp
  rw [hr]
  exact hK q' c' w' hb h'
theorem k_leq {W : World} (hG : GOK G W) (a0 a1 b0 b1 : Int) : Calls P 11 #[.agg #[.int .i64 a0, .int .i64 a1], .agg #[.int .i64 b0, .int .i64 b1]] W fun e w' => e = .returned (.bool (ival_Leq a0 a1 b0 b1)) ∧ Below W.heap.size W w' :=
  calls_of (vs := [.agg #[.int .i64 a0, .int .i64 a1], .agg #[.int .i64 b0, .int .i64 b1]]) law_works.t (g := 11) (F := ival_Leq.F) rfl hG rfl
theorem k_wid {W : World} (hG : GOK G W) (a b : Int × Int) {ad : Option Addr} {cap : Nat} {zs : List Int} (hz : Thr W ad zs) :
    Calls P 9 #[.agg #[.int .i64 a.1, .int .i64 a.2], .agg #[.int .i64 b.1, .int .i64 b.2], .slice ad zs.length cap] W fun e w' => e = .returned (.agg #[.int .i64 (widenI a b zs).1, .int .i64 (widenI a b zs).2]) ∧ Below W.heap.size W w' := wid_walk hG a.1 a.2 b.1 b.2 hz
theorem k_wid2 {W : World} (hG : GOK G W) (a b : Int × Int) {ad : Option Addr} {cap : Nat} {zs : List Int} (hz : Thr W ad zs) :
    Calls P 10 #[.agg #[.int .i64 a.1, .int .i64 a.2], .agg #[.int .i64 b.1, .int .i64 b.2], .slice ad zs.length cap] W fun e w' => e = .returned (.agg #[.int .i64 (widenI a b zs).1, .int .i64 (widenI a b zs).2]) ∧ Below W.heap.size W w' := by
  have := wid2_walk hG a.1 a.2 b.1 b.2 (cap := cap) hz
  rw [show widenJ (a.1, a.2) (b.1, b.2) zs = widenI a b zs from (widen_eq a b zs).symm] at this
  exact this
set_option maxRecDepth 100000 in
set_option maxHeartbeats 8000000 in
theorem widens_walk {W : World} (hG : GOK G W) {x : Int × Int} (hx0 : I64 x.1) (hx1 : I64 x.2) {ta ra : Option Addr} {tc rc : Nat} {zs : List Int} {bs : List (Int × Int)} (hz : Thr W ta zs) (hr : RowI W ra bs) (hnil : ta = none → tc = 0) (hb8 : zs.length * 8 ≤ 140737488351232) :
    Calls P 3 #[.agg #[.int .i64 x.1, .int .i64 x.2], .slice ta zs.length tc, .slice ra bs.length rc] W fun e w' => e = .returned (.bool true) ∧ Below W.heap.size W w' := by
  have HB := Lib.hid (allocB W (.cells (ivc x) 23))
  have HA := Lib.hid (allocR W (.cells (ivc x) 23))
  have HL := Lib.hid (allocL W (.cells (ivc x) 23))
  have HG := Lib.hid hG
  have HZ := Lib.hid hz
  have HR := Lib.hid hr
  have HX := Lib.hid (And.intro hx0 hx1)
  clear hG hz hr hx0 hx1
  go_enter Tryd.func3, Tryd.ntmps3
  go_wp2_with (go_at_call 8; refine (k_works (gok_b HG.out (Nat.le_refl _) HB.out)).mono ?_; rintro e W1 ⟨rfl, hb⟩; refine Hid.out ?_)
  have HA1 := Lib.hid ((hb.block _ HL.out).trans HA.out)
  have hL1 := Nat.lt_of_lt_of_le HL.out hb.size
  have HB1 := Lib.hid (HB.out.trans (hb.mono (Nat.le_of_lt HL.out)))
  clear hb HB HA HL
  refine Lib.hid ?_
  obtain ⟨i0, hi, hz0, hz1, hz2⟩ := info_parts info2
  have hbig := HZ.out.big
  go_upto_region 4 with fail
  go_cut [8] from 22 to 30 (fun own wx => ∃ g cap, own = .slice (some ⟨g, 0, none⟩) zs.length cap ∧ OW W wx x g cap zs)
  case first =>
    cases ta with
    | none =>
      obtain rfl : zs = [] := by
        cases zs with
        | nil => rfl
        | cons z r => obtain ⟨_, _, e, _⟩ := HZ.out.at_ 0 (by simp); simp at e
      obtain rfl := hnil rfl
      have own0 : ((W1.alloc (.cells #[] 2)).alloc (.cells #[.int .i64 77] 2)).ownsRow (W.heap.size + 1) 2 1 (.slice (some ⟨W1.heap.size, 0, none⟩) 0 0) 0 [] := ⟨rfl, .inr ⟨W1.heap.size, 0, #[], rfl, by omega, ((allocB _ _).block _ (allocL _ _)).trans (allocR _ _), by omega, by decide, rfl, rfl⟩⟩
      go_wp2_with (at_builtin; refine wpList_append_own _ rfl (.tmp 26) (.tmp 27) 24 rfl (W.heap.size + 1) 2 i0 (.int .i64 0) 1 8 Tryd.underlying24 hi hz0 hz1 hz2 rfl (by decide) _ 0 [] rfl own0 ⟨W1.heap.size + 1, 0, none⟩ 1 1 [.int .i64 77] rfl rfl ?c2 (fun u hu => by simp at hu; subst hu; rfl) (by decide) (by decide) ?c6 ?_)
      case c6 => have := (allocB W1 (.cells #[] 2)).size; have := (allocB (W1.alloc (.cells #[] 2)) (.cells #[.int .i64 77] 2)).size; omega
      intro v2 w3 o2 g2 _
      obtain ⟨g, cap, rfl, hOA⟩ := OW.made (zs := []) (v1 := .slice (some ⟨W1.heap.size, 0, none⟩) 0 0) HB1.out HA1.out own0 (allocTwo _ _ _ _ (by omega)) (Below.refl _ _) o2 g2 (by omega)
      have HOA := Lib.hid hOA
      clear hOA o2 g2 own0
      go_wp2
      go_meet
      case rel => exact ⟨g, cap, rfl, HOA.out⟩
    | some p =>
      have own0 : (W1.alloc (.cells #[] 2)).ownsRow (W.heap.size + 1) 2 1 (.slice (some ⟨W1.heap.size, 0, none⟩) 0 0) 0 [] := ⟨rfl, .inr ⟨W1.heap.size, 0, #[], rfl, by omega, allocR _ _, by omega, by decide, rfl, rfl⟩⟩
      go_wp2_with (at_builtin; refine wpList_append_own _ rfl (.tmp 24) (.tmp 25) 24 rfl (W.heap.size + 1) 2 i0 (.int .i64 0) 1 8 Tryd.underlying24 hi hz0 hz1 hz2 rfl (by decide) _ 0 [] rfl own0 p zs.length tc (vals zs) rfl ?d1 ?d2 ?d3 ?d4 ?d5 ?d6 ?_)
      case d1 => simp [vals]
      case d3 => exact vals_one
      case d4 => have : maxLen = 9223372036854775807 := rfl; omega
      case d5 => omega
      case d2 => exact vals_at ((HZ.out.below HB1.out).below (allocB _ _))
      case d6 => have := (allocB W1 (.cells #[] 2)).size; omega
      intro v1 w1 o1 g1 _
      have b1 : Below (W.heap.size + 1) W1 w1 := ((allocB W1 (.cells #[] 2)).mono (by omega)).trans (grown_keep g1 (by have := (allocB W1 (.cells #[] 2)).size; omega) (fun k hk => by simp [Value.ownBlock] at hk; omega))
      have o1' : (w1.alloc (.cells #[.int .i64 77] 2)).ownsRow (W.heap.size + 1) 2 1 v1 zs.length (vals zs) := o1.alloc _
      have hml2 : zs.length + 1 ≤ maxLen := by have : maxLen = 9223372036854775807 := rfl; omega
      have h882 : (zs.length + 1) * 8 ≤ 140737488355328 := by omega
      clear own0 g1
      go_wp2_with (at_builtin; refine wpList_append_own _ rfl (.tmp 26) (.tmp 27) 24 rfl (W.heap.size + 1) 2 i0 (.int .i64 0) 1 8 Tryd.underlying24 hi hz0 hz1 hz2 rfl (by decide) _ zs.length (vals zs) rfl o1' ⟨w1.heap.size, 0, none⟩ 1 1 [.int .i64 77] rfl rfl ?e2 (fun u hu => by simp at hu; subst hu; rfl) hml2 h882 ?e6 ?_)
      case e2 =>
        intro j u hj
        match j, hj with
        | 0, hj => simp at hj; subst hj; simp [Addr.add]
      case e6 => have := b1.size; have := (allocB w1 (.cells #[.int .i64 77] 2)).size; omega
      intro v2 w3 o2 g2 _
      obtain ⟨g, cap, rfl, hOA⟩ := OW.made HB1.out HA1.out o1 b1 (allocB _ _) o2 g2 (by omega)
      have hle := hOA.le
      have HOA := Lib.hid hOA
      clear hOA o2 g2 o1 o1' b1
      go_wp2
      go_meet
      case rel => exact ⟨g, cap, rfl, HOA.out⟩
  case rest =>
    obtain ⟨g, cap, rfl, hOA⟩ := hcut
    have HOA := Lib.hid hOA
    clear hOA HA1 HB1 hL1
    obtain ⟨c0, c1, f0, f1⟩ := cells2 HOA.out.rA
    clear f0 f1
    have hrb := HR.out.big
    go_wp2
    go_loopw [10, 11, 34] (fun l h i wr => ∃ (k : Nat) (n : Int × Int) (lo hi : Int), k ≤ bs.length ∧ i = .int .i64 k ∧ l = .int .i64 lo ∧ h = .int .i64 hi ∧ I64 n.1 ∧ I64 n.2 ∧ Cnt zs n lo hi ∧ ON W wr x g cap zs wc.heap.size n) (fun _ _ i _ => bs.length - (intOf i).toNat)
    case atStart => exact ⟨0, x, 0, 0, Nat.zero_le _, rfl, rfl, rfl, HX.out.1, HX.out.2, cnt_start _ _, HOA.out.below (allocB _ _), HOA.out.hi, allocL _ _, allocR _ _⟩
    case round =>
      generalize wc.heap.size = N at *
      obtain ⟨k, n, lo, hi', hk, rfl, rfl, rfl, hn0, hn1, hC, hO⟩ := hrel
      have HN := Lib.hid hO
      have HC := Lib.hid hC
      have HI := Lib.hid (And.intro hn0 hn1)
      clear hO hC hn0 hn1 c0 c1
      by_cases hlt : k < bs.length
      · obtain ⟨b, off, rfl, hbl, ib0, ib1, b0, b1⟩ := (HR.out.below HN.out.o.bel).at_ k hlt
        have HIB := Lib.hid (And.intro ib0 ib1)
        obtain ⟨n0, n1, f0, f1⟩ := cells2 HN.out.rN
        have hgs := HN.out.hN
        clear f0 f1 ib0 ib1
        have HM := Lib.hid (HN.out.below (allocB wr (.cells (ivc bs[k]) 23)))
        go_wp2_with (go_at_call 9; refine (k_wid (cap := cap) (gok_b HG.out (Nat.le_refl _) HM.out.o.bel) n bs[k] (HM.out.o.thr hbig)).mono ?_; rintro e W3 ⟨rfl, hb⟩; refine Hid.out ?_)
        have HM3 := Lib.hid (HM.out.below hb)
        have HB3 := Lib.hid ((hb.block _ (allocL _ _)).trans (allocR wr (.cells (ivc bs[k]) 23)))
        have hB3 := Nat.lt_of_lt_of_le (allocL wr (.cells (ivc bs[k]) 23)) hb.size
        have HWd := Lib.hid (wide_of (zs := zs) HI.out.1 HI.out.2 HIB.out.1 HIB.out.2)
        clear hb HM n0 n1 b0 b1
        generalize hnx : widenI n bs[k] zs = nx at *
        have HNX := Lib.hid hnx
        clear hnx
        have HM4 := Lib.hid (HM3.out.below (allocB W3 (.cells (ivc nx) 23)))
        have HB4 := Lib.hid (((allocB W3 (.cells (ivc nx) 23)).block _ hB3).trans HB3.out)
        have HE4 := Lib.hid (allocR W3 (.cells (ivc nx) 23))
        have hE4 := allocL W3 (.cells (ivc nx) 23)
        clear HM3 HB3
        refine Lib.hid ?_
        go_upto_region 11 with fail
        generalize W3.alloc (.cells #[.int .i64 nx.1, .int .i64 nx.2] 23) = wE at *
        go_cut [59] from 42 to 59 (fun c wx => c = .bool false ∧ Below wE.heap.size wE wx)
        case first =>
          have cn : ∀ w', Below wE.heap.size wE w' → w'.cell? ⟨N, 0, none⟩ = some (.int .i64 n.1) ∧ w'.cell? ⟨N, 1, none⟩ = some (.int .i64 n.2) := fun w' h => ⟨(cells2 (HM4.out.below h).rN).1, (cells2 (HM4.out.below h).rN).2.1⟩
          have cb : ∀ w', Below wE.heap.size wE w' → w'.cell? ⟨wr.heap.size, 0, none⟩ = some (.int .i64 bs[k].1) ∧ w'.cell? ⟨wr.heap.size, 1, none⟩ = some (.int .i64 bs[k].2) := fun w' h => by
            have := (h.block wr.heap.size (by omega)).trans HB4.out
            exact ⟨(cells2 this).1, (cells2 this).2.1⟩
          have ce : ∀ w', Below wE.heap.size wE w' → w'.cell? ⟨W3.heap.size, 0, none⟩ = some (.int .i64 nx.1) ∧ w'.cell? ⟨W3.heap.size, 1, none⟩ = some (.int .i64 nx.2) := fun w' h => by
            have := (h.block W3.heap.size (by omega)).trans HE4.out
            exact ⟨(cells2 this).1, (cells2 this).2.1⟩
          go_region_held3 (fun w' => Below wE.heap.size wE w') (first | assumption | exact ⟨rfl, rfl, rfl, Nat.le_refl _, fun _ _ => rfl⟩)
            (first
              | (go_at_call 10
                 have hS := ‹Below wE.heap.size wE _›
                 refine (k_wid2 (gok_b HG.out (Nat.le_refl _) (HM4.out.o.bel.trans (hS.mono HM4.out.o.bel.size))) n bs[k] (HZ.out.below (HM4.out.o.bel.trans (hS.mono HM4.out.o.bel.size)))).mono ?_
                 rintro e w' ⟨rfl, hb⟩
                 rw [HNX.out]
                 have hS' := hS.trans (hb.mono hS.size)
                 clear hS hb)
              | (go_at_call 11
                 have hS := ‹Below wE.heap.size wE _›
                 refine (k_leq (gok_b HG.out (Nat.le_refl _) (HM4.out.o.bel.trans (hS.mono HM4.out.o.bel.size))) _ _ _ _).mono ?_
                 rintro e w' ⟨rfl, hb⟩
                 first | rw [HWd.out.le1] | rw [HWd.out.le2]
                 have hS' := hS.trans (hb.mono hS.size)
                 clear hS hb))
          go_wp2
          go_meet
          case rel => exact ⟨rfl, ‹Below wE.heap.size wE _›⟩
        case rest =>
          obtain ⟨rfl, hbw⟩ := hcut
          have HM5 := Lib.hid (HM4.out.below hbw)
          have HE5 := Lib.hid ((hbw.block _ hE4).trans HE4.out)
          have hsz5 := hbw.size
          clear hbw HM4 HB4 HE4
          obtain ⟨n0, n1, f0, f1⟩ := cells2 HM5.out.rN
          obtain ⟨e0, e1, f2, f3⟩ := cells2 HE5.out
          clear f2 f3
          have hcb := cnt_fin HC.out
          have hlo : lo + 1 ≤ 140737488351234 := by omega
          have hhi : hi' + 1 ≤ 140737488351234 := by omega
          have HST := Lib.hid (HM5.out.store nx.1 nx.2)
          by_cases hne : n.1 ≤ n.2
          · have HC2 := Lib.hid (cnt_step HC.out HWd.out hne)
            by_cases e1 : nx.1 = n.1 <;> by_cases e2 : nx.2 = n.2
            all_goals
              have HC3 := HC2.out
              (first | rw [if_pos e1, if_pos e2] at HC3 | rw [if_pos e1, if_neg e2] at HC3 | rw [if_neg e1, if_pos e2] at HC3 | rw [if_neg e1, if_neg e2] at HC3)
              have HC4 := Lib.hid HC3
              (first | have d1 : (nx.1 != n.1) = false := by simp [e1]
                     | have d1 : (nx.1 != n.1) = true := by simp [e1])
              (first | have d2 : (nx.2 != n.2) = false := by simp [e2]
                     | have d2 : (nx.2 != n.2) = true := by simp [e2])
              clear HC3 HC2 e1 e2
              go_wp2
              exact ⟨⟨k + 1, nx, _, _, by omega, by go_num, rfl, rfl, HWd.out.i1, HWd.out.i2, HC4.out, HST.out⟩, by simp [intOf]; omega⟩
          · have HC4 := Lib.hid (cnt_none (nx := nx) HC.out (by omega))
            go_wp2
            exact ⟨⟨k + 1, nx, _, _, by omega, by go_num, rfl, rfl, HWd.out.i1, HWd.out.i2, HC4.out, HST.out⟩, by simp [intOf]; omega⟩
      · obtain rfl : k = bs.length := by omega
        obtain ⟨q1, q2, q3, q4⟩ := cnt_fin HC.out
        go_wp2
        go_loopw [83] (fun i wx => ∃ k2 : Nat, k2 ≤ zs.length ∧ i = .int .i64 k2 ∧ ON W wx x g cap zs N n) (fun i _ => zs.length - (intOf i).toNat)
        case atStart => exact ⟨0, Nat.zero_le _, rfl, HN.out⟩
        case round =>
          obtain ⟨k2, hk2, rfl, hO⟩ := hrel
          have HO := Lib.hid hO
          clear hO HN
          by_cases hlt2 : k2 < zs.length
          · obtain ⟨b, off, rfl, hbl, hc⟩ := (HZ.out.below HO.out.o.bel).at_ k2 hlt2
            have hc2 := HO.out.o.cell hlt2
            go_wp2
            go_quiet (fail)
            go_wp2
            exact ⟨⟨k2 + 1, by omega, by go_num, HO.out.below ⟨rfl, rfl, rfl, Nat.le_refl _, fun _ _ => rfl⟩⟩, by simp [intOf]; omega⟩
          · go_wp2
            go_loopw [98] (fun i wx => ∃ k3 : Nat, k3 ≤ bs.length ∧ i = .int .i64 k3 ∧ ON W wx x g cap zs N n) (fun i _ => bs.length - (intOf i).toNat)
            case atStart => exact ⟨0, Nat.zero_le _, rfl, HO.out⟩
            case round =>
              obtain ⟨k3, hk3, rfl, hO⟩ := hrel
              have HP := Lib.hid hO
              clear hO HO
              by_cases hlt3 : k3 < bs.length
              · obtain ⟨b, off, rfl, hbl, ib0, ib1, b0, b1⟩ := (HR.out.below HP.out.o.bel).at_ k3 hlt3
                clear ib0 ib1
                have HB3 := Lib.hid (⟨HP.out.below (allocB wr (.cells (ivc bs[k3]) 23)), HP.out.hN, allocL _ _, allocR _ _⟩ : OB W (wr.alloc (.cells (ivc bs[k3]) 23)) x g cap zs N n wr.heap.size bs[k3])
                go_upto_region 29 with fail
                clear b0 b1
                generalize wr.alloc (.cells #[.int .i64 bs[k3].1, .int .i64 bs[k3].2] 23) = wE at *
                generalize wr.heap.size = B at *
                go_cut [110] from 102 to 110 (fun c wx => c = .bool false ∧ Below wE.heap.size wE wx)
                case first =>
                  have ca : ∀ w', Below wE.heap.size wE w' → w'.cell? ⟨W.heap.size, 0, none⟩ = some (.int .i64 x.1) ∧ w'.cell? ⟨W.heap.size, 1, none⟩ = some (.int .i64 x.2) := fun w' h => ⟨(cells2 (HB3.out.below h).on.o.rA).1, (cells2 (HB3.out.below h).on.o.rA).2.1⟩
                  have cb : ∀ w', Below wE.heap.size wE w' → w'.cell? ⟨B, 0, none⟩ = some (.int .i64 bs[k3].1) ∧ w'.cell? ⟨B, 1, none⟩ = some (.int .i64 bs[k3].2) := fun w' h => ⟨(cells2 (HB3.out.below h).rB).1, (cells2 (HB3.out.below h).rB).2.1⟩
                  go_region_held3 (fun w' => Below wE.heap.size wE w') (first | assumption | exact ⟨rfl, rfl, rfl, Nat.le_refl _, fun _ _ => rfl⟩)
                    (first
                      | (go_at_call 9
                         have hS := ‹Below wE.heap.size wE _›
                         refine (k_wid (gok_b HG.out (Nat.le_refl _) (HB3.out.below hS).on.o.bel) x bs[k3] ((HB3.out.below hS).on.o.thr hbig)).mono ?_
                         rintro e w' ⟨rfl, hb⟩
                         have hS' := hS.trans (hb.mono hS.size)
                         clear hS hb)
                      | (go_at_call 10
                         have hS := ‹Below wE.heap.size wE _›
                         refine (k_wid2 (gok_b HG.out (Nat.le_refl _) (HB3.out.below hS).on.o.bel) x bs[k3] (HZ.out.below (HB3.out.below hS).on.o.bel)).mono ?_
                         rintro e w' ⟨rfl, hb⟩
                         have hS' := hS.trans (hb.mono hS.size)
                         clear hS hb))
                  go_wp2
                  go_meet
                  case rel => exact ⟨rfl, ‹Below wE.heap.size wE _›⟩
                case rest =>
                  obtain ⟨rfl, hbw⟩ := hcut
                  have HB4 := Lib.hid (HB3.out.below hbw)
                  clear hbw HB3 HP
                  go_wp2
                  go_loopw [113] (fun i wx => ∃ (k4 : Nat) (ys : List Int), k4 ≤ zs.length ∧ ys.length = zs.length ∧ i = .int .i64 k4 ∧ OB W wx x g cap ys N n B bs[k3]) (fun i _ => zs.length - (intOf i).toNat)
                  case atStart => exact ⟨0, zs, Nat.zero_le _, rfl, rfl, HB4.out⟩
                  case round =>
                    obtain ⟨k4, ys, hk4, hys, rfl, hO⟩ := hrel
                    have HQ := Lib.hid hO
                    have HYS := Lib.hid hys
                    clear hO HB4
                    by_cases hlt4 : k4 < zs.length
                    · have hb4 : zs.length - 1 - k4 < zs.length := by omega
                      obtain ⟨b', off', rfl, hbl', hc⟩ := (HZ.out.below HQ.out.on.o.bel).at_ (zs.length - 1 - k4) hb4
                      have hfr := HQ.out.on.o.frozen k4
                      have hc2 := HQ.out.on.o.cell (i := k4) (by rw [HYS.out]; exact hlt4)
                      have hX := Lib.hid (fun z => HQ.out.set (i := k4) (by rw [HYS.out]; exact hlt4) z)
                      clear hys
                      go_wp2
                      exact ⟨⟨k4 + 1, ys.set k4 _, by omega, by simpa using HYS.out, by go_num, hX.out _⟩, by simp [intOf]; omega⟩
                    · obtain rfl : k4 = zs.length := by omega
                      go_upto_region 36 with fail
                      have hlen := HYS.out
                      clear hys
                      go_cut [138] from 128 to 138 (fun c wx => c = .bool false ∧ Below wr.heap.size wr wx)
                      case first =>
                        have ca : ∀ w', Below wr.heap.size wr w' → w'.cell? ⟨W.heap.size, 0, none⟩ = some (.int .i64 x.1) ∧ w'.cell? ⟨W.heap.size, 1, none⟩ = some (.int .i64 x.2) := fun w' h => ⟨(cells2 (HQ.out.below h).on.o.rA).1, (cells2 (HQ.out.below h).on.o.rA).2.1⟩
                        have cb : ∀ w', Below wr.heap.size wr w' → w'.cell? ⟨B, 0, none⟩ = some (.int .i64 bs[k3].1) ∧ w'.cell? ⟨B, 1, none⟩ = some (.int .i64 bs[k3].2) := fun w' h => ⟨(cells2 (HQ.out.below h).rB).1, (cells2 (HQ.out.below h).rB).2.1⟩
                        go_region_held3 (fun w' => Below wr.heap.size wr w') (first | assumption | exact ⟨rfl, rfl, rfl, Nat.le_refl _, fun _ _ => rfl⟩ | exact belA (by assumption) _)
                          (first
                            | (go_at_call 9
                               have hS := ‹Below wr.heap.size wr _›
                               have hk := k_wid (cap := cap) (gok_b HG.out (Nat.le_refl _) (HQ.out.below hS).on.o.bel) x bs[k3] ((HQ.out.below hS).on.o.thr (by omega))
                               rw [hlen] at hk
                               refine hk.mono ?_
                               rintro e w' ⟨rfl, hb⟩
                               have hS' := hS.trans (hb.mono hS.size)
                               clear hS hb hk)
                            | (have hS := ‹Below wr.heap.size wr _›
                               refine step_app rfl _ _ rfl rfl rfl hlen ((HQ.out.below hS).on.o.thr (by omega)) (by omega) ?_
                               intro q' c' w' hb hq'
                               have hS' := hS.trans (hb.mono hS.size)
                               clear hS hb)
                            | (go_at_call 10
                               have hS := ‹Below wr.heap.size wr _›
                               have hk := k_wid2 (gok_b HG.out (Nat.le_refl _) (HQ.out.below hS).on.o.bel) x bs[k3] (cap := c') hq'
                               rw [hlen] at hk
                               refine hk.mono ?_
                               rintro e w'' ⟨rfl, hb⟩
                               have hS' := hS.trans (hb.mono hS.size)
                               clear hS hb hk))
                        all_goals
                          go_wp2
                          go_meet
                          case rel => exact ⟨rfl, ‹Below wr.heap.size wr _›⟩
                      case rest =>
                        obtain ⟨rfl, hbw⟩ := hcut
                        have HB5 := Lib.hid (HQ.out.below hbw)
                        have HL5 := Lib.hid hlen
                        clear hbw HQ HYS hlen
                        go_wp2
                        go_loopw [141] (fun i wx => ∃ (k5 : Nat) (ys : List Int), k5 ≤ zs.length ∧ ys.length = zs.length ∧ ys.take k5 = zs.take k5 ∧ i = .int .i64 k5 ∧ OB W wx x g cap ys N n B bs[k3]) (fun i _ => zs.length - (intOf i).toNat)
                        case atStart => exact ⟨0, ys, Nat.zero_le _, HL5.out, by simp, rfl, HB5.out⟩
                        case round =>
                          obtain ⟨k5, us, hk5, hus, htk, rfl, hO⟩ := hrel
                          have HQ := Lib.hid hO
                          have HYS := Lib.hid hus
                          have HTK := Lib.hid htk
                          clear hO htk hus HB5
                          by_cases hlt5 : k5 < zs.length
                          · obtain ⟨b', off', rfl, hbl', hc⟩ := (HZ.out.below HQ.out.on.o.bel).at_ k5 hlt5
                            have hfr := HQ.out.on.o.frozen k5
                            have hc2 := HQ.out.on.o.cell (i := k5) (by rw [HYS.out]; exact hlt5)
                            have hX := Lib.hid (HQ.out.set (i := k5) (by rw [HYS.out]; exact hlt5) zs[k5])
                            have hT := Lib.hid (show (us.set k5 zs[k5]).take (k5 + 1) = zs.take (k5 + 1) by
                              have h1 : k5 < us.length := by rw [HYS.out]; exact hlt5
                              rw [List.take_succ_eq_append_getElem (by simpa using h1), List.take_succ_eq_append_getElem hlt5, List.take_set_of_le (Nat.le_refl _), HTK.out]
                              simp)
                            go_wp2
                            exact ⟨⟨k5 + 1, us.set k5 zs[k5], by omega, by simpa using HYS.out, hT.out, by go_num, hX.out⟩, by simp [intOf]; omega⟩
                          · obtain rfl : k5 = zs.length := by omega
                            have e : us = zs := by
                              have h1 := HTK.out
                              rw [List.take_of_length_le (by rw [HYS.out]; exact Nat.le_refl _), List.take_of_length_le (Nat.le_refl _)] at h1
                              exact h1
                            subst e
                            go_wp2
                            exact ⟨⟨k3 + 1, by omega, by go_num, HQ.out.on⟩, by simp [intOf]; omega⟩
              · have hlast := HP.out.o.last
                have hle := HP.out.o.le
                have hcm := HP.out.o.cm
                have hmx : maxLen = 9223372036854775807 := rfl
                have hle2 : (zs.length : Int) + 1 ≤ (cap : Int) := by omega
                have d1 : decide (lo ≤ (zs.length : Int) + 1) = true := by simpa using q3
                have d2 : decide (hi' ≤ (zs.length : Int) + 1) = true := by simpa using q4
                go_wp2
                go_ret
                exact ⟨rfl, HP.out.o.bel⟩
end Go.Proofs.YtbbplkdjcgdaaaaDoor.V
