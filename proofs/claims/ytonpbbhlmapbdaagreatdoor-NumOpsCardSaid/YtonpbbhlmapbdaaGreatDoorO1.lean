/- NumOps by the kit's walk. Conditions: none. -/
import Derived.Test.YtonpbbhlmapbdaaGreatDoorOA
import Derived.Deep.QuietTactic
import Derived.BigQuiet
import Derived.OwnWalk
import Derived.Deep.CutRange
set_option linter.unusedVariables false
set_option linter.unusedSimpArgs false
namespace Go.Proofs.YtonpbbhlmapbdaaGreatDoor.V
open Go Go.Wk Go.RowKit
noncomputable def appR (op : Int) (x y : Nm) : Nm × Int := if isOp op then (applyS op x y, 0) else ((false, 0, 0, 0, 0), 1)
section
variable {W : World} (hG : GOK G W)
include hG
theorem k_app {op : Int} {x y : Nm} (h : Raw x) (h' : Raw y) : Calls P 16 #[.int .i64 op, nvx x, nvx y] W fun e w' => e = .returned (.tuple #[nvx (appR op x y).1, .int .i64 (appR op x y).2]) ∧ Below W.heap.size W w' := by
  obtain ⟨a0, a1, a2, a3, a4⟩ := x
  obtain ⟨b0, b1, b2, b3, b4⟩ := y
  have := TabOK_calls C law_rest.t (F := num_Apply.F) rfl Tryz.func16 (by kernel_rfl) (vs := [.int .i64 op, nvx (a0, a1, a2, a3, a4), nvx (b0, b1, b2, b3, b4)])
    (v := .tuple #[.agg #[.bool (num_Apply op a0 a1 a2 a3 a4 b0 b1 b2 b3 b4).1, .int .i64 (num_Apply op a0 a1 a2 a3 a4 b0 b1 b2 b3 b4).2.1, .int .i64 (num_Apply op a0 a1 a2 a3 a4 b0 b1 b2 b3 b4).2.2.1, .int .u64 (num_Apply op a0 a1 a2 a3 a4 b0 b1 b2 b3 b4).2.2.2.1, .int .u64 (num_Apply op a0 a1 a2 a3 a4 b0 b1 b2 b3 b4).2.2.2.2.1], .int .i64 (num_Apply op a0 a1 a2 a3 a4 b0 b1 b2 b3 b4).2.2.2.2.2]) hG (by
    show some (num_Apply.ok op a0 a1 a2 a3 a4 b0 b1 b2 b3 b4, _) = _
    rw [num_Apply_ok h h'])
  rw [num_Apply_s h h'] at this
  unfold appR
  split at this
  · rename_i o; rw [if_pos o]; exact this
  · rename_i o; rw [if_neg o]; exact this
theorem k_app2 {op : Int} {x y : Nm} (h : Raw x) (h' : Raw y) : Calls P 41 #[.int .i64 op, nvx x, nvx y] W fun e w' => e = .returned (.tuple #[nvx (appR op x y).1, .int .i64 (appR op x y).2]) ∧ Below W.heap.size W w' := by
  obtain ⟨a0, a1, a2, a3, a4⟩ := x
  obtain ⟨b0, b1, b2, b3, b4⟩ := y
  have := TabOK_calls C law_rest.t (F := nref_Apply.F) rfl Tryz.func41 (by kernel_rfl) (vs := [.int .i64 op, nvx (a0, a1, a2, a3, a4), nvx (b0, b1, b2, b3, b4)])
    (v := .tuple #[.agg #[.bool (nref_Apply op a0 a1 a2 a3 a4 b0 b1 b2 b3 b4).1, .int .i64 (nref_Apply op a0 a1 a2 a3 a4 b0 b1 b2 b3 b4).2.1, .int .i64 (nref_Apply op a0 a1 a2 a3 a4 b0 b1 b2 b3 b4).2.2.1, .int .u64 (nref_Apply op a0 a1 a2 a3 a4 b0 b1 b2 b3 b4).2.2.2.1, .int .u64 (nref_Apply op a0 a1 a2 a3 a4 b0 b1 b2 b3 b4).2.2.2.2.1], .int .i64 (nref_Apply op a0 a1 a2 a3 a4 b0 b1 b2 b3 b4).2.2.2.2.2]) hG (by
    show some (nref_Apply.ok op a0 a1 a2 a3 a4 b0 b1 b2 b3 b4, _) = _
    rw [nref_Apply_ok h h'])
  rw [nref_Apply_s h h'] at this
  unfold appR
  split at this
  · rename_i o; rw [if_pos o]; exact this
  · rename_i o; rw [if_neg o]; exact this
end
/-- two boxes and a row of seven -/
structure O7 (W : World) (S : Nat) (w : World) (x y : Nm) (op : Int) : Prop where
  bel : Below W.heap.size W w
  lA : W.heap.size + 1 < w.heap.size
  lS : S < w.heap.size
  rA : w.heap[W.heap.size]? = some (.cells (ncs x) 28 (0, 0))
  rB : w.heap[W.heap.size + 1]? = some (.cells (ncs y) 28 (0, 0))
  rS : w.heap[S]? = some (.cells #[.int .i64 op, .int .i64 1, .int .i64 3, .int .i64 4, .int .i64 5, .int .i64 6, .int .i64 7] 34 (0, 0))
theorem O7.below {W w w' : World} {S : Nat} {x y : Nm} {op : Int} (h : O7 W S w x y op) (hb : Below w.heap.size w w') : O7 W S w' x y op where
  bel := h.bel.trans (hb.mono h.bel.size)
  lA := Nat.lt_of_lt_of_le h.lA hb.size
  lS := Nat.lt_of_lt_of_le h.lS hb.size
  rA := (hb.block _ (by have := h.lA; omega)).trans h.rA
  rB := (hb.block _ h.lA).trans h.rB
  rS := (hb.block _ h.lS).trans h.rS
theorem O7.start {W W1 : World} {x y : Nm} {op : Int} (hb : Below ((W.alloc (.cells (ncs x) 28)).alloc (.cells (ncs y) 28)).heap.size ((W.alloc (.cells (ncs x) 28)).alloc (.cells (ncs y) 28)) W1) :
    O7 W W1.heap.size (W1.alloc (.cells #[.int .i64 op, .int .i64 1, .int .i64 3, .int .i64 4, .int .i64 5, .int .i64 6, .int .i64 7] 34)) x y op := by
  have e : ((W.alloc (.cells (ncs x) 28)).alloc (.cells (ncs y) 28)).heap = (W.heap.push (.cells (ncs x) 28)).push (.cells (ncs y) 28) := rfl
  have hs : ((W.alloc (.cells (ncs x) 28)).alloc (.cells (ncs y) 28)).heap.size = W.heap.size + 1 + 1 := by rw [e]; simp
  have b0 : Below W.heap.size W ((W.alloc (.cells (ncs x) 28)).alloc (.cells (ncs y) 28)) := ((Below.refl W.heap.size W).alloc (Nat.le_refl _) _).alloc (by simp) _
  have b2 : Below W1.heap.size W1 (W1.alloc (.cells #[.int .i64 op, .int .i64 1, .int .i64 3, .int .i64 4, .int .i64 5, .int .i64 6, .int .i64 7] 34)) := (Below.refl _ _).alloc (Nat.le_refl _) _
  have l2 := allocL W1 (.cells #[.int .i64 op, .int .i64 1, .int .i64 3, .int .i64 4, .int .i64 5, .int .i64 6, .int .i64 7] 34)
  have sz := hb.size
  rw [hs] at sz
  refine ⟨(b0.trans (hb.mono (by omega))).trans (b2.mono (by omega)), by omega, l2, ?_, ?_, allocR _ _⟩
  · refine (b2.block _ (by omega)).trans ((hb.block _ (by omega)).trans ?_)
    rw [e, Array.getElem?_push, Array.getElem?_push]; simp
  · refine (b2.block _ (by omega)).trans ((hb.block _ (by omega)).trans ?_)
    rw [e, Array.getElem?_push]; simp
theorem row7 {w : World} {S k : Nat} {op : Int} (h : w.heap[S]? = some (.cells #[.int .i64 op, .int .i64 1, .int .i64 3, .int .i64 4, .int .i64 5, .int .i64 6, .int .i64 7] 34 (0, 0))) (hk : k < 7) : ∃ o, w.cell? ⟨S, k, none⟩ = some (.int .i64 o) := by
  simp only [World.cell?, h]
  match k, hk with
  | 0, _ => exact ⟨_, rfl⟩
  | 1, _ => exact ⟨_, rfl⟩
  | 2, _ => exact ⟨_, rfl⟩
  | 3, _ => exact ⟨_, rfl⟩
  | 4, _ => exact ⟨_, rfl⟩
  | 5, _ => exact ⟨_, rfl⟩
  | 6, _ => exact ⟨_, rfl⟩
set_option maxRecDepth 100000 in
set_option maxHeartbeats 4000000 in
theorem ops_walk {W : World} (hG : GOK G W) (op : Int) {x y : Nm} (hx : Raw x) (hy : Raw y) {ta : Option Addr} {tc : Nat} {zs : List Int} (hz : Thr W ta zs) (hnil : ta = none → tc = 0) (hb8 : zs.length * 8 ≤ 140737488351232) :
    Calls P 6 #[.int .i64 op, nvx x, nvx y, .slice ta zs.length tc] W fun e w' => e = .returned (.bool true) ∧ Below W.heap.size W w' := by
  have HB := Lib.hid (((Below.refl W.heap.size W).alloc (Nat.le_refl _) (.cells (ncs x) 28)).alloc (by simp) (.cells (ncs y) 28))
  have HG := Lib.hid hG
  have HZ := Lib.hid hz
  clear hG hz
  go_enter Tryz.func6, Tryz.ntmps6
  go_wp2_with (go_at_call 13; refine (k_works (gok_b HG.out (Nat.le_refl _) HB.out)).mono ?_; rintro e W1 ⟨rfl, hb⟩; refine Hid.out ?_)
  have HO := Lib.hid (O7.start (op := op) hb)
  clear hb HB
  refine Lib.hid ?_
  go_wp2
  go_loopw [24] (fun i wr => ∃ k : Nat, k ≤ 7 ∧ i = .int .i64 k ∧ O7 W W1.heap.size wr x y op) (fun i _ => 7 - (intOf i).toNat)
  case atStart => exact ⟨0, by omega, rfl, HO.out⟩
  case round =>
    obtain ⟨k, hk, rfl, hO⟩ := hrel
    have HR := Lib.hid hO
    clear hO HO
    by_cases hlt : k < 7
    · obtain ⟨o, ho⟩ := row7 HR.out.rS hlt
      obtain ⟨a0, a1, a2, a3, a4, f0, f1, f2, f3, f4⟩ := cells5 HR.out.rA
      obtain ⟨b0, b1, b2, b3, b4, g0, g1, g2, g3, g4⟩ := cells5 HR.out.rB
      clear f0 f1 f2 f3 f4 g0 g1 g2 g3 g4
      go_wp2_with (go_at_call 16; refine (k_app (gok_b HG.out (Nat.le_refl _) HR.out.bel) hx hy).mono ?_; rintro e W2 ⟨rfl, hb⟩; refine Hid.out ?_)
      have HR2 := Lib.hid (HR.out.below hb)
      clear hb HR a0 a1 a2 a3 a4 b0 b1 b2 b3 b4 ho
      have HA := Lib.hid (HR2.out.below (allocB W2 (.cells (ncs (appR o x y).1) 28)))
      obtain ⟨a0, a1, a2, a3, a4, f0, f1, f2, f3, f4⟩ := cells5 HR2.out.rA
      obtain ⟨b0, b1, b2, b3, b4, g0, g1, g2, g3, g4⟩ := cells5 HR2.out.rB
      have l1 := HR2.out.lA
      have l2 : W.heap.size < W2.heap.size := by omega
      clear f0 f1 f2 f3 f4 g0 g1 g2 g3 g4
      refine Lib.hid ?_
      go_wp2_with (go_at_call 41; refine (k_app2 (gok_b HG.out (Nat.le_refl _) HA.out.bel) hx hy).mono ?_; rintro e W3 ⟨rfl, hb⟩; refine Hid.out ?_)
      have HR3 := Lib.hid (HA.out.below hb)
      have hl3 := Nat.lt_of_lt_of_le (allocL W2 (.cells (ncs (appR o x y).1) 28)) hb.size
      have hr3 := (hb.block _ (allocL W2 (.cells (ncs (appR o x y).1) 28))).trans (allocR _ _)
      clear hb HA HR2 a0 a1 a2 a3 a4 b0 b1 b2 b3 b4 l1 l2
      obtain ⟨a0, a1, a2, a3, a4, f0, f1, f2, f3, f4⟩ := cells5 hr3
      clear hr3 f0 f1 f2 f3 f4
      have HR4 := Lib.hid (HR3.out.below (allocB W3 (.cells (ncs (appR o x y).1) 28)))
      refine Lib.hid ?_
      go_wp2
      exact ⟨⟨k + 1, by omega, by go_num, HR4.out⟩, by simp [intOf]; omega⟩
    · obtain rfl : k = 7 := by omega
      obtain ⟨i0, hi, hz0, hz1, hz2⟩ := info_parts info2
      have hlA := HR.out.lA
      have hbig := HZ.out.big
      go_upto_region 12 with fail
      go_cut [16] from 53 to 59 (fun own wx => ∃ g cap, own = .slice (some ⟨g, 0, none⟩) zs.length cap ∧ OA W wx x y g cap zs)
      case first =>
        cases ta with
        | none =>
          obtain rfl : zs = [] := by
            cases zs with
            | nil => rfl
            | cons z r => obtain ⟨_, _, e, _⟩ := HZ.out.at_ 0 (by simp); simp at e
          obtain rfl := hnil rfl
          have own0 : ((wr.alloc (.cells #[] 2)).alloc (.cells #[.int .i64 77] 2)).ownsRow (W.heap.size + 2) 2 1 (.slice (some ⟨wr.heap.size, 0, none⟩) 0 0) 0 [] := ⟨rfl, .inr ⟨wr.heap.size, 0, #[], rfl, by omega, ((allocB _ _).block _ (allocL _ _)).trans (allocR _ _), by omega, by decide, rfl, rfl⟩⟩
          go_wp2_with (at_builtin; refine wpList_append_own _ rfl (.tmp 55) (.tmp 56) 51 rfl (W.heap.size + 2) 2 i0 (.int .i64 0) 1 8 Tryz.underlying51 hi hz0 hz1 hz2 rfl (by decide) _ 0 [] rfl own0 ⟨wr.heap.size + 1, 0, none⟩ 1 1 [.int .i64 77] rfl rfl ?c2 (fun u hu => by simp at hu; subst hu; rfl) (by decide) (by decide) ?c6 ?_)
          case c6 => have := (allocB wr (.cells #[] 2)).size; have := (allocB (wr.alloc (.cells #[] 2)) (.cells #[.int .i64 77] 2)).size; omega
          intro v2 w3 o2 g2 _
          obtain ⟨g, cap, rfl, hOA⟩ := OA.made (zs := []) (v1 := .slice (some ⟨wr.heap.size, 0, none⟩) 0 0) HR.out.bel HR.out.rA HR.out.rB own0 (allocTwo _ _ _ _ (by omega)) (Below.refl _ _) o2 g2 (by omega)
          have HOA := Lib.hid hOA
          clear hOA o2 g2 own0
          go_wp2
          go_meet
          case rel => exact ⟨g, cap, rfl, HOA.out⟩
        | some p =>
          have own0 : (wr.alloc (.cells #[] 2)).ownsRow (W.heap.size + 2) 2 1 (.slice (some ⟨wr.heap.size, 0, none⟩) 0 0) 0 [] := ⟨rfl, .inr ⟨wr.heap.size, 0, #[], rfl, by omega, allocR _ _, by omega, by decide, rfl, rfl⟩⟩
          go_wp2_with (at_builtin; refine wpList_append_own _ rfl (.tmp 53) (.tmp 54) 51 rfl (W.heap.size + 2) 2 i0 (.int .i64 0) 1 8 Tryz.underlying51 hi hz0 hz1 hz2 rfl (by decide) _ 0 [] rfl own0 p zs.length tc (vals zs) rfl ?d1 ?d2 ?d3 ?d4 ?d5 ?d6 ?_)
          case d1 => simp [vals]
          case d3 => exact vals_one
          case d4 => have : maxLen = 9223372036854775807 := rfl; omega
          case d5 => omega
          case d2 => exact vals_at ((HZ.out.below HR.out.bel).below (allocB _ _))
          case d6 => have := (allocB wr (.cells #[] 2)).size; omega
          intro v1 w1 o1 g1 _
          have b1 : Below (W.heap.size + 2) wr w1 := ((allocB wr (.cells #[] 2)).mono (by omega)).trans (grown_keep g1 (by have := (allocB wr (.cells #[] 2)).size; omega) (fun k hk => by simp [Value.ownBlock] at hk; omega))
          have o1' : (w1.alloc (.cells #[.int .i64 77] 2)).ownsRow (W.heap.size + 2) 2 1 v1 zs.length (vals zs) := o1.alloc _
          have hml2 : zs.length + 1 ≤ maxLen := by have : maxLen = 9223372036854775807 := rfl; omega
          have h882 : (zs.length + 1) * 8 ≤ 140737488355328 := by omega
          clear own0 g1
          go_wp2_with (at_builtin; refine wpList_append_own _ rfl (.tmp 55) (.tmp 56) 51 rfl (W.heap.size + 2) 2 i0 (.int .i64 0) 1 8 Tryz.underlying51 hi hz0 hz1 hz2 rfl (by decide) _ zs.length (vals zs) rfl o1' ⟨w1.heap.size, 0, none⟩ 1 1 [.int .i64 77] rfl rfl ?e2 (fun u hu => by simp at hu; subst hu; rfl) hml2 h882 ?e6 ?_)
          case e2 =>
            intro j u hj
            match j, hj with
            | 0, hj => simp at hj; subst hj; simp [Addr.add]
          case e6 => have := b1.size; have := (allocB w1 (.cells #[.int .i64 77] 2)).size; omega
          intro v2 w3 o2 g2 _
          obtain ⟨g, cap, rfl, hOA⟩ := OA.made HR.out.bel HR.out.rA HR.out.rB o1 b1 (allocB _ _) o2 g2 (by omega)
          have hle := hOA.le
          have HOA := Lib.hid hOA
          clear hOA o2 g2 o1 o1' b1
          go_wp2
          go_meet
          case rel => exact ⟨g, cap, rfl, HOA.out⟩
      case rest =>
        obtain ⟨g, cap, rfl, hOA⟩ := hcut
        have HOA := Lib.hid hOA
        clear hOA HR
        go_upto_region 13 with fail
        go_cut [68] from 60 to 68 (fun c wx => c = .bool false ∧ OA W wx x y g cap zs)
        case first =>
          refine reg13 HG.out hx hy HOA.out HZ.out rfl rfl rfl rfl rfl ?_
          intro a w h1 h2 hb h68 hold
          rw [frame_eq [60, 61, 62, 63, 64, 65, 66, 67, 68] h1 h2 hold]
          simp only [List.map_cons, List.map_nil, puts, List.foldl_cons, List.foldl_nil, h68]
          have HOB := Lib.hid (HOA.out.below hb)
          clear h1 h2 hold hb h68 HOA
          generalize a.tmps.getD 60 undef = y60
          generalize a.tmps.getD 61 undef = y61
          generalize a.tmps.getD 62 undef = y62
          generalize a.tmps.getD 63 undef = y63
          generalize a.tmps.getD 64 undef = y64
          generalize a.tmps.getD 65 undef = y65
          generalize a.tmps.getD 66 undef = y66
          generalize a.tmps.getD 67 undef = y67
          clear a
          go_simp
          go_wp2
          go_meet
          case rel => exact ⟨rfl, HOB.out⟩
        case rest =>
          obtain ⟨rfl, hOA⟩ := hcut
          have HOB := Lib.hid hOA
          clear hOA HOA
          go_wp2
          go_loopw [71] (fun i wx => ∃ k : Nat, k ≤ zs.length ∧ i = .int .i64 k ∧ OA W wx x y g cap zs) (fun i _ => zs.length - (intOf i).toNat)
          case atStart => exact ⟨0, Nat.zero_le _, rfl, HOB.out⟩
          case round =>
            obtain ⟨k, hk2, rfl, hOA⟩ := hrel
            have HOC := Lib.hid hOA
            clear hOA HOB
            by_cases hlt2 : k < zs.length
            · obtain ⟨b, off, rfl, hbl, hc⟩ := (HZ.out.below HOC.out.bel).at_ k hlt2
              have hc2 := HOC.out.cell hlt2
              go_wp2
              go_quiet (fail)
              go_wp2
              exact ⟨⟨k + 1, by omega, by go_num, HOC.out.below ⟨rfl, rfl, rfl, Nat.le_refl _, fun _ _ => rfl⟩⟩, by simp [intOf]; omega⟩
            · go_wp2
              go_loopw [86] (fun i wx => ∃ k ys, k ≤ zs.length ∧ ys.length = zs.length ∧ i = .int .i64 (k : Nat) ∧ OA W wx x y g cap ys) (fun i _ => zs.length - (intOf i).toNat)
              case atStart => exact ⟨0, zs, Nat.zero_le _, rfl, rfl, HOC.out⟩
              case round =>
                obtain ⟨k3, ys, hk3, hys, rfl, hOA⟩ := hrel
                have HOD := Lib.hid hOA
                clear hOA HOC
                by_cases hlt3 : k3 < zs.length
                · obtain ⟨b, off, rfl, hbl, hc⟩ := (HZ.out.below HOD.out.bel).at_ (zs.length - 1 - k3) (by omega)
                  have hfr := HOD.out.frozen k3
                  have hc2 := HOD.out.cell (i := k3) (by omega)
                  go_wp2
                  exact ⟨⟨k3 + 1, ys.set k3 _, by omega, by simpa using hys, by go_num, HOD.out.set (by omega) _⟩, by simp [intOf]; omega⟩
                · go_wp2
                  refine reg26 HG.out hx hy HOD.out (by omega) rfl rfl rfl (by rw [hys]; rfl) (by rw [hys]; rfl) ?_
                  intro a w h1 h2 hb h8
                  refine ‹∀ (a : Act) (w : World), Code.wp P Code.ret _ a w → _› a w ?_
                  refine wp_ret ?_
                  have h8' : a.tmps[8]?.getD undef = .bool true := by simpa [Array.getD_eq_getD_getElem?] using h8
                  exact ⟨h1, .bool true, by simp [results, Tryz.results6, go_sem, h8'], rfl, (HOD.out.below hb).bel⟩
end Go.Proofs.YtonpbbhlmapbdaaGreatDoor.V
