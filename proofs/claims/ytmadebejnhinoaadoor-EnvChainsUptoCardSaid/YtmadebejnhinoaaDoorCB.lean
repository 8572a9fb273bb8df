/- Chapter 15: each over the pair closure; Chapter 15: pairs, both; Chapter 15: both; Chapter 15: Meet, wider: the stores normed, and a result; Chapter 15: wider; Chapter 15: the functions on Nums; Join, Widen, Meet; Chapter 15: Join, Widen. Conditions: none. -/
import Derived.Test.YtmadebejnhinoaaDoorCA
import Derived.Deep.RegionWith

set_option linter.unusedVariables false
set_option linter.unusedSimpArgs false
namespace Go.Proofs.YtmadebejnhinoaaDoor.V
open Go Go.Wk Go.RowKit

theorem own_bx {w w' : World} {b base : Nat} {e : TypeId} {size : Nat} {v : Value} {n : Nat} {xs : List Value} (h : w.ownsRow base e size v n xs) (hb : BX b w w') (hbb : b < base) : w'.ownsRow base e size v n xs :=
  ⟨h.1, by
    rcases h.2 with h' | ⟨g, cap, cur, hv, hg0, hg, rest⟩
    · exact .inl h'
    · exact .inr ⟨g, cap, cur, hv, hg0, (hb.block g (Array.getElem?_eq_some_iff.1 hg).1 (by omega)).trans hg, rest⟩⟩
structure EP (W w wx : World) (m : Value) (xs ys : List Nm) (op : Nm → Nm → Nm) (o : Value) (k : Nat) : Prop where
  bx : BX (W.heap.size + 1) w wx
  bk : BK W wx m ((k : Int) - 1)
  own : wx.ownsRow w.heap.size 46 5 o k (nlist ((List.zipWith op xs ys).take k))
theorem zip_succ {xs ys : List Nm} {op : Nm → Nm → Nm} {k : Nat} (h : k < xs.length) (h' : k < ys.length) : nlist ((List.zipWith op xs ys).take k) ++ ncl (op xs[k] ys[k]) = nlist ((List.zipWith op xs ys).take (k + 1)) := by
  have hk : k < (List.zipWith op xs ys).length := by simp; omega
  rw [List.take_succ_eq_append_getElem hk, ← nlist_snoc]
  simp
def Paired (W w : World) (xs ys : List Nm) (op : Nm → Nm → Nm) (e : Ending) (w' : World) : Prop := ∃ v, e = .returned v ∧ Below W.heap.size W w' ∧ w.heap.size ≤ w'.heap.size ∧ SlF w.heap.size w' v (List.zipWith op xs ys)
set_option maxRecDepth 100000 in
set_option maxHeartbeats 4000000 in
theorem each_pair {W w : World} {g bw : Nat} {caps : List Value} {op : Nm → Nm → Nm} (hop : Pairs W g caps op) (hraw : ∀ x y, Raw x → Raw y → Raw (op x y)) (hbw : bw < W.heap.size) (hw : W.cell? ⟨bw, 0, none⟩ = some (.func (.func g) #[] caps.toArray))
    {a a' : Option Addr} {cap cap' : Nat} {xs ys : List Nm} (hr : Row W a xs) (hr' : Row W a' ys) (hl : xs.length = ys.length) (hB : BK W w (.slice a' ys.length cap') (-1)) :
    Calls P 31 #[.slice a xs.length cap, .func (.func 41) #[] #[.pointer (some ⟨W.heap.size + 1, 0, none⟩), .pointer (some ⟨bw, 0, none⟩), .pointer (some ⟨W.heap.size, 0, none⟩)]] w (Paired W w xs ys op) := by
  obtain ⟨i0, hi0, hz0, hz1, hz2⟩ := info_parts info46
  have hbig := hr.big
  have HR := Lib.hid hr
  have HR' := Lib.hid hr'
  have HOP := Lib.hid hop
  have HL0 := Lib.hid hl
  have HW := Lib.hid hw
  have hsz := hB.sz
  clear hr hr' hop hw hl
  have hml : xs.length ≤ maxLen := by have : maxLen = 9223372036854775807 := rfl; omega
  obtain ⟨w0, hmk, hown0, hg0⟩ := run_make_own (P := P) w w.heap.size 22 46 i0 _ 5 Tryd.underlying22 hi0 hz0 hz1 .i64 .i64 xs.length (by rw [hz2]; omega) hml (Nat.le_refl _)
  have hb0 := grown_keep hg0 (Nat.le_refl _) (fun k h => by simp at h)
  have HL := Lib.hid (⟨BX.of hb0, by simpa using hB.below hb0, by simpa [nlist] using hown0⟩ : EP W w w0 (.slice a' ys.length cap') xs ys op (.slice (some ⟨w.heap.size, 0, none⟩) 0 xs.length) 0)
  clear hown0 hg0 hb0 hB
  go_enter Tryd.func31, Tryd.ntmps31
  go_wp2
  go_loopw [5, 13] (fun o i wx => ∃ k : Nat, k ≤ xs.length ∧ i = .int .i64 k ∧ EP W w wx (.slice a' ys.length cap') xs ys op o k) (fun _ i _ => xs.length - (intOf i).toNat)
  case atStart => exact ⟨0, Nat.zero_le _, rfl, HL.out⟩
  case round =>
    obtain ⟨k, hk, rfl, hL⟩ := hrel
    have HE := Lib.hid hL
    clear hL HL
    by_cases hlt : k < xs.length
    · have hlt' : k < ys.length := by rw [← HL0.out]; exact hlt
      obtain ⟨b, off, rfl, hbl, c0, c1, c2, c3, c4⟩ := (HR.out.below HE.out.bk.bel).at_ k hlt
      have HB := Lib.hid (HE.out.bk.below (allocB wr (.cells (ncs xs[k]) 46)))
      go_wp2_with (go_at_call 41; refine (HOP.out _ bw hbw HW.out _ cap' ys HR'.out k hlt' HB.out xs[k] (HR.out.raw _ (List.getElem_mem hlt))).mono ?_; rintro e W2 ⟨rfl, hbk, hbx⟩; refine Hid.out ?_)
      have HX2 := Lib.hid ((BX.of (allocB wr (.cells (ncs xs[k]) 46)) : BX (W.heap.size + 1) _ _).trans hbx)
      have HX3 := Lib.hid (HE.out.bx.trans HX2.out)
      have HK3 := Lib.hid hbk
      have HO3 := Lib.hid (own_bx HE.out.own HX2.out (by omega))
      have hws := HX3.out.size
      clear hbk hbx HB HE HX2 c0 c1 c2 c3 c4
      refine Lib.hid ?_
      go_wp2_with (at_builtin; refine wpList_append_own _ rfl (.tmp 17) (.tmp 21) 22 rfl w.heap.size 46 i0 _ 5 40 Tryd.underlying22 hi0 hz0 hz1 hz2 rfl (by decide) _ k (nlist ((List.zipWith op xs ys).take k)) rfl (HO3.out.alloc _) ⟨_, 0, none⟩ 1 1 (ncl (op xs[k] ys[k])) rfl rfl ?d2 ?d3 (by omega) (by omega) ?d6 ?_)
      case d2 =>
        intro j u hj
        match j, hj with
        | 0, hj => simp [ncl] at hj; subst hj; simp [Addr.add]
        | 1, hj => simp [ncl] at hj; subst hj; simp [Addr.add]
        | 2, hj => simp [ncl] at hj; subst hj; simp [Addr.add]
        | 3, hj => simp [ncl] at hj; subst hj; simp [Addr.add]
        | 4, hj => simp [ncl] at hj; subst hj; simp [Addr.add]
        | j + 5, hj => simp [ncl] at hj
      case d3 =>
        intro u hu
        simp only [ncl, List.mem_cons, List.mem_nil_iff, or_false] at hu
        rcases hu with rfl | rfl | rfl | rfl | rfl <;> rfl
      case d6 => simp; omega
      intro v' w3 o2 g2 _
      have hb3 : Below w.heap.size W2 w3 := ((allocB W2 (.cells (ncs (op xs[k] ys[k])) 46)).mono hws).trans (grown_keep g2 (by simp; omega) (fun g hg => (HO3.out.lt g hg).1))
      have HE3 := Lib.hid (⟨HX3.out.below (Nat.le_refl _) hb3, by simpa using HK3.out.below2 hsz hb3, by rw [← zip_succ hlt hlt']; exact o2⟩ : EP W w w3 (.slice a' ys.length cap') xs ys op v' (k + 1))
      clear o2 g2 hb3 HX3 HK3 HO3
      go_wp2
      exact ⟨⟨k + 1, by omega, by go_num, HE3.out⟩, by simp [intOf]; omega⟩
    · obtain rfl : k = xs.length := by omega
      have h1 := HE.out.own
      have hzl : (List.zipWith op xs ys).length = xs.length := by simp [HL0.out]
      rw [← hzl, List.take_length] at h1
      have h2 := row_of_ownF (xs := List.zipWith op xs ys) h1 (by rw [hzl]; exact hbig) (fun x hx => by
        obtain ⟨i, hi, rfl⟩ := List.getElem_of_mem hx
        rw [List.getElem_zipWith]
        exact hraw _ _ (HR.out.raw _ (List.getElem_mem _)) (HR'.out.raw _ (List.getElem_mem _)))
      have H2 := Lib.hid h2
      clear h1 h2
      go_wp2
      go_ret
      exact ⟨_, rfl, HE.out.bk.bel, HE.out.bx.size, H2.out⟩
end Go.Proofs.YtmadebejnhinoaaDoor.V


set_option linter.unusedVariables false
set_option linter.unusedSimpArgs false
namespace Go.Proofs.YtmadebejnhinoaaDoor.V
open Go Go.Wk Go.RowKit

theorem bk_start (W : World) (m : Value) : BK W ((W.alloc (.cells #[m] 22)).alloc (.cells #[.int .i64 (-1)] 3)) m (-1) where
  bel := belA (allocB W _) (Nat.le_refl _) _
  sz := by simp
  rm := ((allocB _ _).block _ (allocL _ _)).trans (allocR _ _)
  ri := by have h := allocR (W.alloc (.cells #[m] 22)) (.cells #[.int .i64 (-1)] 3); simpa using h
set_option maxRecDepth 100000 in
set_option maxHeartbeats 1000000 in
theorem pairs_walk {W : World} {g bw : Nat} {caps : List Value} {op : Nm → Nm → Nm} (hop : Pairs W g caps op) (hraw : ∀ x y, Raw x → Raw y → Raw (op x y)) (hbw : bw < W.heap.size) (hw : W.cell? ⟨bw, 0, none⟩ = some (.func (.func g) #[] caps.toArray))
    {a a' : Option Addr} {cap cap' : Nat} {xs ys : List Nm} (hr : Row W a xs) (hr' : Row W a' ys) (hl : xs.length = ys.length) :
    Calls P 40 #[.slice a xs.length cap, .slice a' ys.length cap', .pointer (some ⟨bw, 0, none⟩)] W (Sliced W (List.zipWith op xs ys)) := by
  have HR := Lib.hid hr
  have HR' := Lib.hid hr'
  have HOP := Lib.hid hop
  have HL0 := Lib.hid hl
  have HW := Lib.hid hw
  have HK := Lib.hid (bk_start W (.slice a' ys.length cap'))
  clear hr hr' hop hw hl
  go_enter Tryd.func40, Tryd.ntmps40
  go_wp2_with (go_at_call 31; refine (each_pair HOP.out hraw hbw HW.out HR.out HR'.out HL0.out HK.out).mono ?_; rintro e W2 ⟨v, rfl, hb, hs, hf⟩; refine Hid.out ?_)
  have HB := Lib.hid hb
  have HF := Lib.hid (hf.mono HK.out.bel.size)
  clear hb hs hf
  refine Lib.hid ?_
  go_wp2
  go_ret
  exact ⟨v, rfl, HB.out, HF.out⟩
end Go.Proofs.YtmadebejnhinoaaDoor.V


set_option linter.unusedVariables false
set_option linter.unusedSimpArgs false
namespace Go.Proofs.YtmadebejnhinoaaDoor.V
open Go Go.Wk Go.RowKit

/-- the memory of both: two stores, the function, the result -/
structure B4 (W w : World) (u v f : Value) (su sa sv sb : Value) (d d' : Bool) : Prop where
  bel : Below W.heap.size W w
  sz : W.heap.size + 3 < w.heap.size
  rA : w.heap[W.heap.size]? = some (.cells #[.bool d, su, sa] 24 (0, 0))
  rB : w.heap[W.heap.size + 1]? = some (.cells #[.bool d', sv, sb] 24 (0, 0))
  rC : w.heap[W.heap.size + 2]? = some (.cells #[f] 55 (0, 0))
  rD : w.heap[W.heap.size + 3]? = some (.cells #[.bool false, .slice none 0 0, .slice none 0 0] 24 (0, 0))
theorem b4_start (W : World) (f su sa sv sb : Value) (d d' : Bool) : B4 W ((((W.alloc (.cells #[.bool d, su, sa] 24)).alloc (.cells #[.bool d', sv, sb] 24)).alloc (.cells #[f] 55)).alloc (.cells #[.bool false, .slice none 0 0, .slice none 0 0] 24)) undef undef f su sa sv sb d d' where
  bel := belA (belA (belA (allocB W _) (Nat.le_refl _) _) (Nat.le_refl _) _) (Nat.le_refl _) _
  sz := by simp
  rA := by
    have := PB.start2 W d d' su sa sv sb
    exact ((belA (allocB _ _) (Nat.le_refl _) _).block _ (by simp; omega)).trans this.rA
  rB := by
    have := PB.start2 W d d' su sa sv sb
    exact ((belA (allocB _ _) (Nat.le_refl _) _).block _ (by simp)).trans this.rB
  rC := by
    have h := allocR ((W.alloc (.cells #[.bool d, su, sa] 24)).alloc (.cells #[.bool d', sv, sb] 24)) (.cells #[f] 55)
    exact ((allocB _ _).block _ (by simp)).trans (by simpa using h)
  rD := by
    have h := allocR (((W.alloc (.cells #[.bool d, su, sa] 24)).alloc (.cells #[.bool d', sv, sb] 24)).alloc (.cells #[f] 55)) (.cells #[.bool false, .slice none 0 0, .slice none 0 0] 24)
    simpa using h
theorem Does.below {W w : World} {g : Nat} {caps : List Value} {op : Nm → Nm → Nm} (h : Does W g caps op) (hb : Below W.heap.size W w) : Does w g caps op := fun w' hw' => h w' (hb.trans (hw'.mono hb.size))
set_option maxRecDepth 100000 in
set_option maxHeartbeats 4000000 in
theorem both_walk {W : World} {g : Nat} {caps : List Value} {op : Nm → Nm → Nm} (hop : ∀ w', Below W.heap.size W w' → Pairs w' g caps op) (hraw : ∀ x y, Raw x → Raw y → Raw (op x y))
    {v v' : Value} {E F : EnvP} (hE : EnvAt W v E) (hF : EnvAt W v' F) (hu : unlikeE E F = false) : Calls P 24 #[v, v', .func (.func g) #[] caps.toArray] W (Envd W (bothE op E F)) := by
  have hlen : E.vs.length = F.vs.length ∧ E.ars.length = F.ars.length := by simpa [unlikeE] using hu
  have HLen := Lib.hid hlen
  obtain ⟨_, _, rfl, ⟨a, c, rfl, r1⟩, ⟨b, d, rfl, r2⟩⟩ := hE
  obtain ⟨_, _, rfl, ⟨a', c', rfl, r3⟩, ⟨b', d', rfl, r4⟩⟩ := hF
  have R1 := Lib.hid r1
  have R2 := Lib.hid r2
  have R3 := Lib.hid r3
  have R4 := Lib.hid r4
  have HOP := Lib.hid hop
  clear r1 r2 r3 r4 hop hu
  have HN := Lib.hid (show bothE op E F = livelyE ⟨false, List.zipWith op E.vs F.vs, List.zipWith op E.ars F.ars⟩ from rfl)
  have hz1 : (List.zipWith op E.vs F.vs).length = E.vs.length := by simp [hlen.1]
  have hz2 : (List.zipWith op E.ars F.ars).length = E.ars.length := by simp [hlen.2]
  have HZ1 := Lib.hid hz1
  have HZ2 := Lib.hid hz2
  clear hz1 hz2 hlen
  have H4 := Lib.hid (b4_start W (.func (.func g) #[] caps.toArray) (.slice a E.vs.length c) (.slice b E.ars.length d) (.slice a' F.vs.length c') (.slice b' F.ars.length d') E.dead F.dead)
  go_enter Tryd.func24, Tryd.ntmps24
  go_upto_region 2 with fail
  generalize (((W.alloc (.cells #[.bool E.dead, .slice a E.vs.length c, .slice b E.ars.length d] 24)).alloc (.cells #[.bool F.dead, .slice a' F.vs.length c', .slice b' F.ars.length d'] 24)).alloc (.cells #[.func (.func g) #[] caps.toArray] 55)).alloc (.cells #[.bool false, .slice none 0 0, .slice none 0 0] 24) = wE at *
  have H0 := Lib.hid (SB.start ⟨_, _, _, H4.out.rD⟩ : SB (W.heap.size + 3) wE wE)
  have hsz := H4.out.sz
  have cA : ∀ w', SB (W.heap.size + 3) wE w' → w'.cell? ⟨W.heap.size, 1, none⟩ = some (.slice a E.vs.length c) ∧ w'.cell? ⟨W.heap.size, 2, none⟩ = some (.slice b E.ars.length d) := fun w' h => by
    have := (h.bel.block W.heap.size (by omega)).trans H4.out.rA
    exact ⟨(cells3 this).2.1, (cells3 this).2.2.1⟩
  have cB : ∀ w', SB (W.heap.size + 3) wE w' → w'.cell? ⟨W.heap.size + 1, 1, none⟩ = some (.slice a' F.vs.length c') ∧ w'.cell? ⟨W.heap.size + 1, 2, none⟩ = some (.slice b' F.ars.length d') := fun w' h => by
    have := (h.bel.block (W.heap.size + 1) (by omega)).trans H4.out.rB
    exact ⟨(cells3 this).2.1, (cells3 this).2.2.1⟩
  have cC : ∀ w', SB (W.heap.size + 3) wE w' → w'.cell? ⟨W.heap.size + 2, 0, none⟩ = some (.func (.func g) #[] caps.toArray) := fun w' h => by
    have := (h.bel.block (W.heap.size + 2) (by omega)).trans H4.out.rC
    simp [World.cell?, this]
  have cD : ∀ w', SB (W.heap.size + 3) wE w' → w'.cell? ⟨W.heap.size + 3, 0, none⟩ = some (peek w' ⟨W.heap.size + 3, 0, none⟩) ∧ w'.cell? ⟨W.heap.size + 3, 1, none⟩ = some (peek w' ⟨W.heap.size + 3, 1, none⟩) ∧ w'.cell? ⟨W.heap.size + 3, 2, none⟩ = some (peek w' ⟨W.heap.size + 3, 2, none⟩) ∧
      w'.frozen? ⟨W.heap.size + 3, 0, none⟩ = false ∧ w'.frozen? ⟨W.heap.size + 3, 1, none⟩ = false ∧ w'.frozen? ⟨W.heap.size + 3, 2, none⟩ = false := fun w' h => h.cells
  have hbl : ∀ w', SB (W.heap.size + 3) wE w' → Below W.heap.size W w' := fun w' h => H4.out.bel.trans (h.bel.mono (by omega))
  go_region_held3 (fun w' => SB (W.heap.size + 3) wE w') (first | assumption | exact SB.drew H0.out | exact (SB.put (by assumption) _ _ _).1)
    (first
      | (go_at_call 40
         have hS := ‹SB (W.heap.size + 3) wE _›
         first
           | (with_reducible refine (pairs_walk (cap := c) (cap' := c') (HOP.out _ (hbl _ hS)) hraw (by have := hS.bel.size; omega) (cC _ hS) (R1.out.below (hbl _ hS)) (R3.out.below (hbl _ hS)) HLen.out.1).mono ?_)
             rintro e w' ⟨v1, rfl, hb, ⟨a1, ⟨c1, hc1⟩, rfl, hr1⟩, hf1⟩
             dsimp only at hf1 ⊢
             rw [HZ1.out] at hf1
             have hS' := hS.below hb
             have hs1 : SlF wE.heap.size w' (.slice a1 E.vs.length c1) (List.zipWith op E.vs F.vs) := ⟨⟨a1, ⟨c1, hc1⟩, (by dsimp only; rw [HZ1.out]), hr1⟩, by intro b hb'; exact Nat.le_trans hS.bel.size (hf1 b hb')⟩
             clear hS hb hr1 hf1
             rw [HZ1.out]
           | (with_reducible refine (pairs_walk (cap := d) (cap' := d') (HOP.out _ (hbl _ hS)) hraw (by have := hS.bel.size; omega) (cC _ hS) (R2.out.below (hbl _ hS)) (R4.out.below (hbl _ hS)) HLen.out.2).mono ?_)
             rintro e w'' ⟨v2, rfl, hb, ⟨a2, ⟨c2, hc2⟩, rfl, hr2⟩, hf2⟩
             dsimp only at hf2 ⊢
             rw [HZ2.out] at hf2
             have hS' := hS.below hb
             have hs2 : SlF wE.heap.size w'' (.slice a2 E.ars.length c2) (List.zipWith op E.ars F.ars) := ⟨⟨a2, ⟨c2, hc2⟩, (by dsimp only; rw [HZ2.out]), hr2⟩, by intro b hb'; exact Nat.le_trans hS.bel.size (hf2 b hb')⟩
             have hs3 := hs1.below hb
             clear hS hb hs1 hr2 hf2
             rw [HZ2.out])
      | (go_at_call 30
         have hS := ‹SB (W.heap.size + 3) wE _›
         refine (lively_walk (E := ⟨false, List.zipWith op E.vs F.vs, List.zipWith op E.ars F.ars⟩) hs3 hs2).mono ?_
         rintro e w3 ⟨lv, rfl, hb, henv⟩
         rw [← HN.out] at henv
         obtain ⟨s1, s2, rfl, ⟨⟨q1, d1, rfl, hq1⟩, k1⟩, ⟨⟨q2, d2, rfl, hq2⟩, k2⟩⟩ := henv
         have henv : EnvF wE.heap.size w3 (evx (bothE op E F).dead (.slice q1 (bothE op E F).vs.length d1) (.slice q2 (bothE op E F).ars.length d2)) (bothE op E F) := ⟨_, _, rfl, ⟨⟨q1, d1, rfl, hq1⟩, k1⟩, ⟨⟨q2, d2, rfl, hq2⟩, k2⟩⟩
         have hS' := hS.below hb
         have hblk := Lib.hid hS'.blk
         clear hS hb hs3 hs2 hq1 hq2 k1 k2))
  have hS := ‹SB (W.heap.size + 3) wE _›
  have hp := put_blk hblk.out (.bool (bothE op E F).dead) (.slice q1 (bothE op E F).vs.length d1) (.slice q2 (bothE op E F).ars.length d2)
  have hE2 := Lib.hid ((((henv.set (b := W.heap.size + 3) (i := 0) (u := .bool (bothE op E F).dead) hsz).set (b := W.heap.size + 3) (i := 1) (u := .slice q1 (bothE op E F).vs.length d1) hsz).set (b := W.heap.size + 3) (i := 2) (u := .slice q2 (bothE op E F).ars.length d2) hsz).mono (B' := W.heap.size) (by omega))
  have hB2 := Lib.hid (hbl _ hS)
  obtain ⟨p0, p1, p2, _, _, _⟩ := cells3 hp
  clear hS hp henv cA cB cC cD hbl
  go_wp2
  refine bodyPost_ret (v := evx (bothE op E F).dead (.slice q1 (bothE op E F).vs.length d1) (.slice q2 (bothE op E F).ars.length d2)) ?_ rfl ⟨_, rfl, hB2.out, hE2.out⟩
  simp [results, Tryd.results24, go_sem, p0, p1, p2]
end Go.Proofs.YtmadebejnhinoaaDoor.V


set_option linter.unusedVariables false
set_option linter.unusedSimpArgs false
namespace Go.Proofs.YtmadebejnhinoaaDoor.V
open Go Go.Wk Go.RowKit

/-- two variables that hold abstract stores, at blocks n and n + 1, and the result at n + 2 -/
structure PC (W w : World) (d : Bool) (sv sa : Value) (d' : Bool) (sv' sa' : Value) : Prop where
  bel : Below W.heap.size W w
  sz : W.heap.size + 2 < w.heap.size
  rA : w.heap[W.heap.size]? = some (.cells #[.bool d, sv, sa] 24 (0, 0))
  rB : w.heap[W.heap.size + 1]? = some (.cells #[.bool d', sv', sa'] 24 (0, 0))
  rC : w.heap[W.heap.size + 2]? = some (.cells #[.bool false, .slice none 0 0, .slice none 0 0] 24 (0, 0))
theorem PC.start (W : World) (d d' : Bool) (sv sa sv' sa' : Value) : PC W (((W.alloc (.cells #[.bool d, sv, sa] 24)).alloc (.cells #[.bool d', sv', sa'] 24)).alloc (.cells #[.bool false, .slice none 0 0, .slice none 0 0] 24)) d sv sa d' sv' sa' where
  bel := belA (belA (allocB W _) (Nat.le_refl _) _) (Nat.le_refl _) _
  sz := by simp
  rA := ((allocB _ _).block _ (by simp; omega)).trans (PB.start2 W d d' sv sa sv' sa').rA
  rB := ((allocB _ _).block _ (by simp)).trans (PB.start2 W d d' sv sa sv' sa').rB
  rC := by
    have h := allocR ((W.alloc (.cells #[.bool d, sv, sa] 24)).alloc (.cells #[.bool d', sv', sa'] 24)) (.cells #[.bool false, .slice none 0 0, .slice none 0 0] 24)
    simpa using h
theorem PC.drew {W w : World} {d d' : Bool} {sv sa sv' sa' : Value} (h : PC W w d sv sa d' sv' sa') : PC W w.drew d sv sa d' sv' sa' := ⟨⟨h.bel.os, h.bel.tape, h.bel.output, h.bel.size, h.bel.block⟩, h.sz, h.rA, h.rB, h.rC⟩
theorem PC.below {W w w' : World} {d d' : Bool} {sv sa sv' sa' : Value} (h : PC W w d sv sa d' sv' sa') (hb : Below w.heap.size w w') : PC W w' d sv sa d' sv' sa' where
  bel := h.bel.trans (hb.mono h.bel.size)
  sz := Nat.lt_of_lt_of_le h.sz hb.size
  rA := (hb.block _ (by have := h.sz; omega)).trans h.rA
  rB := (hb.block _ (by have := h.sz; omega)).trans h.rB
  rC := (hb.block _ h.sz).trans h.rC
theorem PC.putA {W w : World} {d d' : Bool} {sv sa sv' sa' : Value} (h : PC W w d sv sa d' sv' sa') (d2 : Bool) (s2 t2 : Value) : PC W (((w.setCell ⟨W.heap.size, 0, none⟩ (.bool d2)).setCell ⟨W.heap.size, 1, none⟩ s2).setCell ⟨W.heap.size, 2, none⟩ t2) d2 s2 t2 d' sv' sa' where
  bel := ((h.bel.trans (set_bel' w _ (by omega))).trans (set_bel' _ _ (by omega))).trans (set_bel' _ _ (by omega))
  sz := by have := h.sz; simpa using this
  rA := (heap_set0' (heap_set0' (heap_set0' h.rA))).trans (by simp)
  rB := ((heap_setCell_other _ _ _ _ (by simp)).trans ((heap_setCell_other _ _ _ _ (by simp)).trans (heap_setCell_other w _ _ _ (by simp)))).trans h.rB
  rC := ((heap_setCell_other _ _ _ _ (by simp)).trans ((heap_setCell_other _ _ _ _ (by simp)).trans (heap_setCell_other w _ _ _ (by simp)))).trans h.rC
theorem PC.putB {W w : World} {d d' : Bool} {sv sa sv' sa' : Value} (h : PC W w d sv sa d' sv' sa') (d2 : Bool) (s2 t2 : Value) : PC W (((w.setCell ⟨W.heap.size + 1, 0, none⟩ (.bool d2)).setCell ⟨W.heap.size + 1, 1, none⟩ s2).setCell ⟨W.heap.size + 1, 2, none⟩ t2) d sv sa d2 s2 t2 where
  bel := ((h.bel.trans (set_bel' w _ (by omega))).trans (set_bel' _ _ (by omega))).trans (set_bel' _ _ (by omega))
  sz := by have := h.sz; simpa using this
  rA := ((heap_setCell_other _ _ _ _ (by simp)).trans ((heap_setCell_other _ _ _ _ (by simp)).trans (heap_setCell_other w _ _ _ (by simp)))).trans h.rA
  rB := (heap_set0' (heap_set0' (heap_set0' h.rB))).trans (by simp)
  rC := ((heap_setCell_other _ _ _ _ (by simp)).trans ((heap_setCell_other _ _ _ _ (by simp)).trans (heap_setCell_other w _ _ _ (by simp)))).trans h.rC
/-- both variables hold normal forms -/
def Both3 (W : World) (E F : EnvP) (w : World) : Prop := ∃ a c b d a' c' b' d', PC W w E.dead (.slice a E.vs.length c) (.slice b E.ars.length d) F.dead (.slice a' F.vs.length c') (.slice b' F.ars.length d') ∧
  EnvF (W.heap.size + 3) w (evx E.dead (.slice a E.vs.length c) (.slice b E.ars.length d)) E ∧ EnvF (W.heap.size + 3) w (evx F.dead (.slice a' F.vs.length c') (.slice b' F.ars.length d')) F
theorem both_put3 {W w : World} {E F : EnvP} {d d' : Bool} {sv sa sv' sa' : Value} (h : PC W w d sv sa d' sv' sa') {a1 b1 a2 b2 : Option Addr} {c1 d1 c2 d2 : Nat} (h1 : EnvF (W.heap.size + 3) w (evx E.dead (.slice a1 E.vs.length c1) (.slice b1 E.ars.length d1)) E) (h2 : EnvF (W.heap.size + 3) w (evx F.dead (.slice a2 F.vs.length c2) (.slice b2 F.ars.length d2)) F) :
    Both3 W E F ((((((w.setCell ⟨W.heap.size, 0, none⟩ (.bool E.dead)).setCell ⟨W.heap.size, 1, none⟩ (.slice a1 E.vs.length c1)).setCell ⟨W.heap.size, 2, none⟩ (.slice b1 E.ars.length d1)).setCell ⟨W.heap.size + 1, 0, none⟩ (.bool F.dead)).setCell ⟨W.heap.size + 1, 1, none⟩ (.slice a2 F.vs.length c2)).setCell ⟨W.heap.size + 1, 2, none⟩ (.slice b2 F.ars.length d2)) :=
  ⟨_, _, _, _, _, _, _, _, (h.putA _ _ _).putB _ _ _, ((((((h1.set (by omega)).set (by omega)).set (by omega)).set (by omega)).set (by omega)).set (by omega)), ((((((h2.set (by omega)).set (by omega)).set (by omega)).set (by omega)).set (by omega)).set (by omega))⟩
/-- the result's variable is written -/
theorem PC.putC {W w : World} {d d' : Bool} {sv sa sv' sa' : Value} (h : PC W w d sv sa d' sv' sa') (x y z : Value) : Below W.heap.size W (set3 w (W.heap.size + 2) x y z) ∧ (set3 w (W.heap.size + 2) x y z).heap[W.heap.size + 2]? = some (.cells #[x, y, z] 24 (0, 0)) :=
  ⟨((h.bel.trans (set_bel' w _ (by omega))).trans (set_bel' _ _ (by omega))).trans (set_bel' _ _ (by omega)), (heap_set0' (heap_set0' (heap_set0' h.rC))).trans (by simp)⟩
set_option maxRecDepth 100000 in
set_option maxHeartbeats 4000000 in
theorem meet_walk {W : World} (hop : ∀ w', Below W.heap.size W w' → Pairs w' 25 [] meetS) (hraw : ∀ x y, Raw x → Raw y → Raw (meetS x y)) (hG : GOK G W) {v v' : Value} {E F : EnvP} (hE : EnvAt W v E) (hF : EnvAt W v' F) : Calls P 9 #[v, v'] W (Envd W (meetE E F)) := by
  have HE := Lib.hid hE
  have HF := Lib.hid hF
  have HG := Lib.hid hG
  have HOP := Lib.hid hop
  clear hop
  obtain ⟨_, _, rfl, ⟨a, c, rfl, _⟩, ⟨b, d, rfl, _⟩⟩ := hE
  obtain ⟨_, _, rfl, ⟨a', c', rfl, _⟩, ⟨b', d', rfl, _⟩⟩ := hF
  clear hG
  have H0 := Lib.hid (PC.start W E.dead F.dead (.slice a E.vs.length c) (.slice b E.ars.length d) (.slice a' F.vs.length c') (.slice b' F.ars.length d'))
  go_enter Tryd.func9, Tryd.ntmps9
  go_upto_region 1 with fail
  generalize ((W.alloc (.cells #[.bool E.dead, .slice a E.vs.length c, .slice b E.ars.length d] 24)).alloc (.cells #[.bool F.dead, .slice a' F.vs.length c', .slice b' F.ars.length d'] 24)).alloc (.cells #[.bool false, .slice none 0 0, .slice none 0 0] 24) = wE at *
  go_cut [4] from 5 to 8 (fun t wx => t = .pointer (some ⟨W.heap.size + 2, 0, none⟩) ∧ Both3 W (normE E) (normE F) wx)
  case first =>
    obtain ⟨c0, c1, c2, f0, f1, f2⟩ := cells3 H0.out.rA
    obtain ⟨e0, e1, e2, g0, g1, g2⟩ := cells3 H0.out.rB
    have hP0 := H0.out.drew
    go_region_with (
      go_at_call 13
      have hP := ‹PC W _ _ _ _ _ _ _›
      first
        | (with_reducible refine (norm_walk (gok_b HG.out (Nat.le_refl _) hP.bel) (HE.out.below hP.bel)).mono ?_)
          rintro e w' ⟨_, rfl, hb, ⟨_, _, rfl, ⟨⟨a1, c1, rfl, r1⟩, k1⟩, ⟨⟨b1, d1, rfl, r2⟩, k2⟩⟩⟩
          have hP' := hP.below hb
          have hR1 : EnvF (W.heap.size + 3) w' (evx (normE E).dead (.slice a1 (normE E).vs.length c1) (.slice b1 (normE E).ars.length d1)) (normE E) := EnvF.mono ⟨_, _, rfl, ⟨⟨a1, c1, rfl, r1⟩, k1⟩, ⟨⟨b1, d1, rfl, r2⟩, k2⟩⟩ hP.sz
          try have hR2' := (show EnvF _ _ _ (normE F) from hR2).below hb
        | (with_reducible refine (norm_walk (gok_b HG.out (Nat.le_refl _) hP.bel) (HF.out.below hP.bel)).mono ?_)
          rintro e w' ⟨_, rfl, hb, ⟨_, _, rfl, ⟨⟨a2, c2, rfl, r3⟩, k3⟩, ⟨⟨b2, d2, rfl, r4⟩, k4⟩⟩⟩
          have hP' := hP.below hb
          have hR2 : EnvF (W.heap.size + 3) w' (evx (normE F).dead (.slice a2 (normE F).vs.length c2) (.slice b2 (normE F).ars.length d2)) (normE F) := EnvF.mono ⟨_, _, rfl, ⟨⟨a2, c2, rfl, r3⟩, k3⟩, ⟨⟨b2, d2, rfl, r4⟩, k4⟩⟩ hP.sz
          try have hR1' := (show EnvF _ _ _ (normE E) from hR1).below hb
      clear hP hb
      obtain ⟨cA0, cA1, cA2, f0, f1, f2⟩ := cells3 hP'.rA
      obtain ⟨e0, e1, e2, g0, g1, g2⟩ := cells3 hP'.rB)
    all_goals (
      have hP := ‹PC W _ _ _ _ _ _ _›
      have h1 := ‹EnvF (W.heap.size + 3) _ _ (normE E)›
      have h2 := ‹EnvF (W.heap.size + 3) _ _ (normE F)›
      have hJ := Lib.hid (both_put3 hP h1 h2)
      clear hP h1 h2
      go_wp2
      go_meet
      case rel => exact ⟨rfl, hJ.out⟩)
  case rest =>
    obtain ⟨rfl, a1, c1, b1, d1, a2, c2, b2, d2, hP, h1, h2⟩ := hcut
    have HL := Lib.hid (show meetE E F = meetM (normE E) (normE F) from rfl)
    clear H0 HE HF
    generalize normE E = E' at *
    generalize normE F = F' at *
    have hM : meetE E F = if E'.dead || F'.dead || unlikeE E' F' then deadE else bothE meetS E' F' := HL.out
    have HP := Lib.hid hP
    have HA := Lib.hid h1
    have HF := Lib.hid h2
    obtain ⟨cA0, cA1, cA2, _, _, _⟩ := cells3 hP.rA
    obtain ⟨cB0, cB1, cB2, _, _, _⟩ := cells3 hP.rB
    clear hP h1 h2
    obtain ⟨de, vs, ars⟩ := E'
    obtain ⟨df, vs', ars'⟩ := F'
    simp only at *
    cases de with
    | true =>
      have HM := Lib.hid (hM.trans (by simp) : meetE E F = deadE)
      clear hM
      have HP2 := HP
      go_wp2_with (go_at_call 23; refine (dead_walk _).mono ?_; rintro e W1 ⟨rfl, hb⟩; refine Hid.out ?_)
      have HP3 := Lib.hid (HP2.out.below hb)
      clear hb
      obtain ⟨q0, q1, q2, f0, f1, f2⟩ := cells3 HP3.out.rC
      have HQ := Lib.hid (HP3.out.putC (.bool true) (.slice none 0 0) (.slice none 0 0))
      refine Lib.hid ?_
      go_wp2
      obtain ⟨p0, p1, p2, _, _, _⟩ := cells3 HQ.out.2
      unfold set3 at p0 p1 p2
      refine bodyPost_ret (v := evx true (.slice none 0 0) (.slice none 0 0)) ?_ rfl ⟨_, rfl, HQ.out.1, by rw [HM.out]; exact env_dead _ _⟩
      simp [results, Tryd.results9, go_sem, p0, p1, p2]
    | false =>
      cases df with
      | true =>
        have HM := Lib.hid (hM.trans (by simp) : meetE E F = deadE)
        clear hM
        have HP2 := HP
        go_wp2_with (go_at_call 23; refine (dead_walk _).mono ?_; rintro e W1 ⟨rfl, hb⟩; refine Hid.out ?_)
        have HP3 := Lib.hid (HP2.out.below hb)
        clear hb
        obtain ⟨q0, q1, q2, f0, f1, f2⟩ := cells3 HP3.out.rC
        have HQ := Lib.hid (HP3.out.putC (.bool true) (.slice none 0 0) (.slice none 0 0))
        refine Lib.hid ?_
        go_wp2
        obtain ⟨p0, p1, p2, _, _, _⟩ := cells3 HQ.out.2
        unfold set3 at p0 p1 p2
        refine bodyPost_ret (v := evx true (.slice none 0 0) (.slice none 0 0)) ?_ rfl ⟨_, rfl, HQ.out.1, by rw [HM.out]; exact env_dead _ _⟩
        simp [results, Tryd.results9, go_sem, p0, p1, p2]
      | false =>
        have HM0 := Lib.hid hM
        clear hM
        go_wp2_with (go_at_call 19; refine (unlike_walk HA.out.at_ HF.out.at_).mono ?_; rintro e W2 ⟨rfl, hb⟩; refine Hid.out ?_)
        have HP2 := Lib.hid (HP.out.below hb)
        have HA2 := Lib.hid (HA.out.below hb)
        have HF2 := Lib.hid (HF.out.below hb)
        clear hb HP HA HF cA0 cA1 cA2 cB0 cB1 cB2
        obtain ⟨cA0, cA1, cA2, _, _, _⟩ := cells3 HP2.out.rA
        obtain ⟨cB0, cB1, cB2, _, _, _⟩ := cells3 HP2.out.rB
        refine Lib.hid ?_
        cases hu : unlikeE ⟨false, vs, ars⟩ ⟨false, vs', ars'⟩ with
        | true =>
          have HM := Lib.hid (HM0.out.trans (by simp [hu]) : meetE E F = deadE)
          clear hu HM0
          go_wp2_with (go_at_call 23; refine (dead_walk _).mono ?_; rintro e W1 ⟨rfl, hb⟩; refine Hid.out ?_)
          have HP3 := Lib.hid (HP2.out.below hb)
          clear hb
          obtain ⟨q0, q1, q2, f0, f1, f2⟩ := cells3 HP3.out.rC
          have HQ := Lib.hid (HP3.out.putC (.bool true) (.slice none 0 0) (.slice none 0 0))
          refine Lib.hid ?_
          go_wp2
          obtain ⟨p0, p1, p2, _, _, _⟩ := cells3 HQ.out.2
          unfold set3 at p0 p1 p2
          refine bodyPost_ret (v := evx true (.slice none 0 0) (.slice none 0 0)) ?_ rfl ⟨_, rfl, HQ.out.1, by rw [HM.out]; exact env_dead _ _⟩
          simp [results, Tryd.results9, go_sem, p0, p1, p2]
        | false =>
          have HM := Lib.hid (HM0.out.trans (by simp [hu]) : meetE E F = bothE meetS ⟨false, vs, ars⟩ ⟨false, vs', ars'⟩)
          have HU := Lib.hid hu
          clear hu HM0
          go_wp2_with (go_at_call 24; refine (both_walk (g := 25) (caps := []) (fun w' hw' => HOP.out w' (HP2.out.bel.trans (hw'.mono HP2.out.bel.size))) hraw HA2.out.at_ HF2.out.at_ HU.out).mono ?_; rintro e W3 ⟨lv, rfl, hb, henv⟩; refine Hid.out ?_)
          rw [← HM.out] at henv
          have HP3 := Lib.hid (HP2.out.below hb)
          obtain ⟨s1, s2, rfl, ⟨⟨y1, n1, rfl, hy1⟩, k1⟩, ⟨⟨y2, n2, rfl, hy2⟩, k2⟩⟩ := henv
          have hsz := HP2.out.sz
          have henv := EnvF.mono (B' := W.heap.size + 3) (show EnvF _ W3 (evx _ (.slice y1 _ n1) (.slice y2 _ n2)) _ from ⟨_, _, rfl, ⟨⟨y1, n1, rfl, hy1⟩, k1⟩, ⟨⟨y2, n2, rfl, hy2⟩, k2⟩⟩) hsz
          clear hb hy1 hy2 k1 k2
          obtain ⟨q0, q1, q2, f0, f1, f2⟩ := cells3 HP3.out.rC
          have HQ := Lib.hid (HP3.out.putC (.bool ((meetE E F)).dead) (.slice y1 ((meetE E F)).vs.length n1) (.slice y2 ((meetE E F)).ars.length n2))
          have HE2 := Lib.hid ((((henv.set (b := W.heap.size + 2) (i := 0) (u := .bool ((meetE E F)).dead) (by omega)).set (b := W.heap.size + 2) (i := 1) (u := .slice y1 ((meetE E F)).vs.length n1) (by omega)).set (b := W.heap.size + 2) (i := 2) (u := .slice y2 ((meetE E F)).ars.length n2) (by omega)).mono (B' := W.heap.size) (by omega))
          clear henv
          refine Lib.hid ?_
          go_wp2
          obtain ⟨p0, p1, p2, _, _, _⟩ := cells3 HQ.out.2
          unfold set3 at p0 p1 p2
          refine bodyPost_ret (v := evx ((meetE E F)).dead (.slice y1 ((meetE E F)).vs.length n1) (.slice y2 ((meetE E F)).ars.length n2)) ?_ rfl ⟨_, rfl, HQ.out.1, HE2.out⟩
          simp [results, Tryd.results9, go_sem, p0, p1, p2]
end Go.Proofs.YtmadebejnhinoaaDoor.V


set_option linter.unusedVariables false
set_option linter.unusedSimpArgs false
namespace Go.Proofs.YtmadebejnhinoaaDoor.V
open Go Go.Wk Go.RowKit

set_option maxRecDepth 100000 in
set_option maxHeartbeats 4000000 in
theorem wider_walk {W : World} {g : Nat} {caps : List Value} {op : Nm → Nm → Nm} (hop : ∀ w', Below W.heap.size W w' → Pairs w' g caps op) (hraw : ∀ x y, Raw x → Raw y → Raw (op x y)) (hG : GOK G W) {v v' : Value} {E F : EnvP} (hE : EnvAt W v E) (hF : EnvAt W v' F) : Calls P 26 #[v, v', .func (.func g) #[] caps.toArray] W (Envd W (widerE op E F)) := by
  have HE := Lib.hid hE
  have HF := Lib.hid hF
  have HG := Lib.hid hG
  have HOP := Lib.hid hop
  clear hop
  obtain ⟨_, _, rfl, ⟨a, c, rfl, _⟩, ⟨b, d, rfl, _⟩⟩ := hE
  obtain ⟨_, _, rfl, ⟨a', c', rfl, _⟩, ⟨b', d', rfl, _⟩⟩ := hF
  clear hG
  have H0 := Lib.hid (PC.start W E.dead F.dead (.slice a E.vs.length c) (.slice b E.ars.length d) (.slice a' F.vs.length c') (.slice b' F.ars.length d'))
  go_enter Tryd.func26, Tryd.ntmps26
  go_upto_region 1 with fail
  generalize ((W.alloc (.cells #[.bool E.dead, .slice a E.vs.length c, .slice b E.ars.length d] 24)).alloc (.cells #[.bool F.dead, .slice a' F.vs.length c', .slice b' F.ars.length d'] 24)).alloc (.cells #[.bool false, .slice none 0 0, .slice none 0 0] 24) = wE at *
  go_cut [6] from 7 to 11 (fun t wx => t = .pointer (some ⟨W.heap.size + 2, 0, none⟩) ∧ Both3 W (normE E) (normE F) wx)
  case first =>
    obtain ⟨c0, c1, c2, f0, f1, f2⟩ := cells3 H0.out.rA
    obtain ⟨e0, e1, e2, g0, g1, g2⟩ := cells3 H0.out.rB
    have hP0 := H0.out.drew
    go_region_with (
      go_at_call 13
      have hP := ‹PC W _ _ _ _ _ _ _›
      first
        | (with_reducible refine (norm_walk (gok_b HG.out (Nat.le_refl _) hP.bel) (HE.out.below hP.bel)).mono ?_)
          rintro e w' ⟨_, rfl, hb, ⟨_, _, rfl, ⟨⟨a1, c1, rfl, r1⟩, k1⟩, ⟨⟨b1, d1, rfl, r2⟩, k2⟩⟩⟩
          have hP' := hP.below hb
          have hR1 : EnvF (W.heap.size + 3) w' (evx (normE E).dead (.slice a1 (normE E).vs.length c1) (.slice b1 (normE E).ars.length d1)) (normE E) := EnvF.mono ⟨_, _, rfl, ⟨⟨a1, c1, rfl, r1⟩, k1⟩, ⟨⟨b1, d1, rfl, r2⟩, k2⟩⟩ hP.sz
          try have hR2' := (show EnvF _ _ _ (normE F) from hR2).below hb
        | (with_reducible refine (norm_walk (gok_b HG.out (Nat.le_refl _) hP.bel) (HF.out.below hP.bel)).mono ?_)
          rintro e w' ⟨_, rfl, hb, ⟨_, _, rfl, ⟨⟨a2, c2, rfl, r3⟩, k3⟩, ⟨⟨b2, d2, rfl, r4⟩, k4⟩⟩⟩
          have hP' := hP.below hb
          have hR2 : EnvF (W.heap.size + 3) w' (evx (normE F).dead (.slice a2 (normE F).vs.length c2) (.slice b2 (normE F).ars.length d2)) (normE F) := EnvF.mono ⟨_, _, rfl, ⟨⟨a2, c2, rfl, r3⟩, k3⟩, ⟨⟨b2, d2, rfl, r4⟩, k4⟩⟩ hP.sz
          try have hR1' := (show EnvF _ _ _ (normE E) from hR1).below hb
      clear hP hb
      obtain ⟨cA0, cA1, cA2, f0, f1, f2⟩ := cells3 hP'.rA
      obtain ⟨e0, e1, e2, g0, g1, g2⟩ := cells3 hP'.rB)
    all_goals (
      have hP := ‹PC W _ _ _ _ _ _ _›
      have h1 := ‹EnvF (W.heap.size + 3) _ _ (normE E)›
      have h2 := ‹EnvF (W.heap.size + 3) _ _ (normE F)›
      have hJ := Lib.hid (both_put3 hP h1 h2)
      clear hP h1 h2
      go_wp2
      go_meet
      case rel => exact ⟨rfl, hJ.out⟩)
  case rest =>
    obtain ⟨rfl, a1, c1, b1, d1, a2, c2, b2, d2, hP, h1, h2⟩ := hcut
    have HL := Lib.hid (show widerE op E F = widerN op (normE E) (normE F) from rfl)
    clear H0 HE HF
    generalize normE E = E' at *
    generalize normE F = F' at *
    have hM : widerE op E F = if E'.dead then F' else if F'.dead then E' else if unlikeE E' F' then deadE else bothE op E' F' := HL.out
    have HP := Lib.hid hP
    have HA := Lib.hid h1
    have HF := Lib.hid h2
    obtain ⟨cA0, cA1, cA2, _, _, _⟩ := cells3 hP.rA
    obtain ⟨cB0, cB1, cB2, _, _, _⟩ := cells3 hP.rB
    clear hP h1 h2
    obtain ⟨de, vs, ars⟩ := E'
    obtain ⟨df, vs', ars'⟩ := F'
    simp only at *
    cases de with
    | true =>
      have HM := Lib.hid (hM.trans (by simp) : widerE op E F = ⟨df, vs', ars'⟩)
      clear hM
      have HP3 := HP
      have henv := HF.out
      have hsz := HP.out.sz
      obtain ⟨q0, q1, q2, f0, f1, f2⟩ := cells3 HP3.out.rC
      have HQ := Lib.hid (HP3.out.putC (.bool df) (.slice a2 (List.length vs') c2) (.slice b2 (List.length ars') d2))
      have HE2 := Lib.hid ((((henv.set (b := W.heap.size + 2) (i := 0) (u := .bool df) (by omega)).set (b := W.heap.size + 2) (i := 1) (u := .slice a2 (List.length vs') c2) (by omega)).set (b := W.heap.size + 2) (i := 2) (u := .slice b2 (List.length ars') d2) (by omega)).mono (B' := W.heap.size) (by omega))
      clear henv
      go_wp2
      obtain ⟨p0, p1, p2, _, _, _⟩ := cells3 HQ.out.2
      unfold set3 at p0 p1 p2
      refine bodyPost_ret (v := evx df (.slice a2 (List.length vs') c2) (.slice b2 (List.length ars') d2)) ?_ rfl ⟨_, rfl, HQ.out.1, by rw [HM.out]; exact HE2.out⟩
      simp [results, Tryd.results26, go_sem, p0, p1, p2]
    | false =>
      cases df with
      | true =>
        have HM := Lib.hid (hM.trans (by simp) : widerE op E F = ⟨false, vs, ars⟩)
        clear hM
        have HP3 := HP
        have henv := HA.out
        have hsz := HP.out.sz
        obtain ⟨q0, q1, q2, f0, f1, f2⟩ := cells3 HP3.out.rC
        have HQ := Lib.hid (HP3.out.putC (.bool false) (.slice a1 (List.length vs) c1) (.slice b1 (List.length ars) d1))
        have HE2 := Lib.hid ((((henv.set (b := W.heap.size + 2) (i := 0) (u := .bool false) (by omega)).set (b := W.heap.size + 2) (i := 1) (u := .slice a1 (List.length vs) c1) (by omega)).set (b := W.heap.size + 2) (i := 2) (u := .slice b1 (List.length ars) d1) (by omega)).mono (B' := W.heap.size) (by omega))
        clear henv
        go_wp2
        obtain ⟨p0, p1, p2, _, _, _⟩ := cells3 HQ.out.2
        unfold set3 at p0 p1 p2
        refine bodyPost_ret (v := evx false (.slice a1 (List.length vs) c1) (.slice b1 (List.length ars) d1)) ?_ rfl ⟨_, rfl, HQ.out.1, by rw [HM.out]; exact HE2.out⟩
        simp [results, Tryd.results26, go_sem, p0, p1, p2]
      | false =>
        have HM0 := Lib.hid hM
        clear hM
        go_wp2_with (go_at_call 19; refine (unlike_walk HA.out.at_ HF.out.at_).mono ?_; rintro e W2 ⟨rfl, hb⟩; refine Hid.out ?_)
        have HP2 := Lib.hid (HP.out.below hb)
        have HA2 := Lib.hid (HA.out.below hb)
        have HF2 := Lib.hid (HF.out.below hb)
        clear hb HP HA HF cA0 cA1 cA2 cB0 cB1 cB2
        obtain ⟨cA0, cA1, cA2, _, _, _⟩ := cells3 HP2.out.rA
        obtain ⟨cB0, cB1, cB2, _, _, _⟩ := cells3 HP2.out.rB
        refine Lib.hid ?_
        cases hu : unlikeE ⟨false, vs, ars⟩ ⟨false, vs', ars'⟩ with
        | true =>
          have HM := Lib.hid (HM0.out.trans (by simp [hu]) : widerE op E F = deadE)
          clear hu HM0
          go_wp2_with (go_at_call 23; refine (dead_walk _).mono ?_; rintro e W1 ⟨rfl, hb⟩; refine Hid.out ?_)
          have HP3 := Lib.hid (HP2.out.below hb)
          clear hb
          obtain ⟨q0, q1, q2, f0, f1, f2⟩ := cells3 HP3.out.rC
          have HQ := Lib.hid (HP3.out.putC (.bool true) (.slice none 0 0) (.slice none 0 0))
          refine Lib.hid ?_
          go_wp2
          obtain ⟨p0, p1, p2, _, _, _⟩ := cells3 HQ.out.2
          unfold set3 at p0 p1 p2
          refine bodyPost_ret (v := evx true (.slice none 0 0) (.slice none 0 0)) ?_ rfl ⟨_, rfl, HQ.out.1, by rw [HM.out]; exact env_dead _ _⟩
          simp [results, Tryd.results26, go_sem, p0, p1, p2]
        | false =>
          have HM := Lib.hid (HM0.out.trans (by simp [hu]) : widerE op E F = bothE op ⟨false, vs, ars⟩ ⟨false, vs', ars'⟩)
          have HU := Lib.hid hu
          clear hu HM0
          go_wp2_with (go_at_call 24; refine (both_walk (g := g) (caps := caps) (fun w' hw' => HOP.out w' (HP2.out.bel.trans (hw'.mono HP2.out.bel.size))) hraw HA2.out.at_ HF2.out.at_ HU.out).mono ?_; rintro e W3 ⟨lv, rfl, hb, henv⟩; refine Hid.out ?_)
          rw [← HM.out] at henv
          have HP3 := Lib.hid (HP2.out.below hb)
          obtain ⟨s1, s2, rfl, ⟨⟨y1, n1, rfl, hy1⟩, k1⟩, ⟨⟨y2, n2, rfl, hy2⟩, k2⟩⟩ := henv
          have hsz := HP2.out.sz
          have henv := EnvF.mono (B' := W.heap.size + 3) (show EnvF _ W3 (evx _ (.slice y1 _ n1) (.slice y2 _ n2)) _ from ⟨_, _, rfl, ⟨⟨y1, n1, rfl, hy1⟩, k1⟩, ⟨⟨y2, n2, rfl, hy2⟩, k2⟩⟩) hsz
          clear hb hy1 hy2 k1 k2
          obtain ⟨q0, q1, q2, f0, f1, f2⟩ := cells3 HP3.out.rC
          have HQ := Lib.hid (HP3.out.putC (.bool ((widerE op E F)).dead) (.slice y1 ((widerE op E F)).vs.length n1) (.slice y2 ((widerE op E F)).ars.length n2))
          have HE2 := Lib.hid ((((henv.set (b := W.heap.size + 2) (i := 0) (u := .bool ((widerE op E F)).dead) (by omega)).set (b := W.heap.size + 2) (i := 1) (u := .slice y1 ((widerE op E F)).vs.length n1) (by omega)).set (b := W.heap.size + 2) (i := 2) (u := .slice y2 ((widerE op E F)).ars.length n2) (by omega)).mono (B' := W.heap.size) (by omega))
          clear henv
          refine Lib.hid ?_
          go_wp2
          obtain ⟨p0, p1, p2, _, _, _⟩ := cells3 HQ.out.2
          unfold set3 at p0 p1 p2
          refine bodyPost_ret (v := evx ((widerE op E F)).dead (.slice y1 ((widerE op E F)).vs.length n1) (.slice y2 ((widerE op E F)).ars.length n2)) ?_ rfl ⟨_, rfl, HQ.out.1, HE2.out⟩
          simp [results, Tryd.results26, go_sem, p0, p1, p2]
end Go.Proofs.YtmadebejnhinoaaDoor.V


set_option linter.unusedVariables false
set_option linter.unusedSimpArgs false
namespace Go.Proofs.YtmadebejnhinoaaDoor.V
open Go Go.Wk Go.RowKit

set_option maxRecDepth 100000 in
set_option maxHeartbeats 1000000 in
theorem pair25 {W : World} {op : Nm → Nm → Nm} (hop : Does W 25 [] op) : Pairs W 25 [] op := by
  intro w bw hbw hw a cap ys hr k hk hB x hx
  have hbig := hr.big
  have hsz := hB.sz
  obtain ⟨b, off, rfl, hbl, c0, c1, c2, c3, c4⟩ := hr.at_ k hk
  have HK := Lib.hid hB
  have HR := Lib.hid hr
  have HX := Lib.hid hx
  have HOP := Lib.hid hop
  have hB0 := hB.below (belA (allocB w (.cells (ncs x) 46)) (Nat.le_refl _) (.cells #[.bool false, .int .i64 0, .int .i64 0, .int .u64 0, .int .u64 0] 46))
  have hA0 : ((w.alloc (.cells (ncs x) 46)).alloc (.cells #[.bool false, .int .i64 0, .int .i64 0, .int .u64 0, .int .u64 0] 46)).heap[w.heap.size]? = some (.cells (ncs x) 46 (0, 0)) := ((allocB _ _).block _ (allocL _ _)).trans (allocR _ _)
  have hA1 : ((w.alloc (.cells (ncs x) 46)).alloc (.cells #[.bool false, .int .i64 0, .int .i64 0, .int .u64 0, .int .u64 0] 46)).heap[w.heap.size + 1]? = some (.cells #[.bool false, .int .i64 0, .int .i64 0, .int .u64 0, .int .u64 0] 46 (0, 0)) := by
    have := allocR (w.alloc (.cells (ncs x) 46)) (.cells #[.bool false, .int .i64 0, .int .i64 0, .int .u64 0, .int .u64 0] 46); simpa using this
  have hS0 : BX (W.heap.size + 1) w ((w.alloc (.cells (ncs x) 46)).alloc (.cells #[.bool false, .int .i64 0, .int .i64 0, .int .u64 0, .int .u64 0] 46)) := BX.of (belA (allocB w _) (Nat.le_refl _) _)
  clear hop hx hr hB
  go_enter Tryd.func41, Tryd.ntmps41
  go_upto_region 1 with fail
  generalize (w.alloc (.cells #[.bool x.1, .int .i64 x.2.1, .int .i64 x.2.2.1, .int .u64 x.2.2.2.1, .int .u64 x.2.2.2.2] 46)).alloc (.cells #[.bool false, .int .i64 0, .int .i64 0, .int .u64 0, .int .u64 0] 46) = w1 at *
  have hi0 : w1.cell? ⟨W.heap.size + 1, 0, none⟩ = some (.int .i64 ((k : Int) - 1)) := by simp [World.cell?, hB0.ri]
  have hf0 : w1.frozen? ⟨W.heap.size + 1, 0, none⟩ = false := by simp [World.frozen?, hB0.ri]
  have HB := Lib.hid (hB0.set (k' := k))
  have HA0 := Lib.hid ((heap_setCell_other w1 ⟨W.heap.size + 1, 0, none⟩ _ (Value.int .i64 k) (by simp; omega)).trans hA0)
  have HA1 := Lib.hid ((heap_setCell_other w1 ⟨W.heap.size + 1, 0, none⟩ _ (Value.int .i64 k) (by simp; omega)).trans hA1)
  have HS := Lib.hid (hS0.trans (BX.set (i := 0) w1 (Value.int .i64 k)))
  clear hB0 hA0 hA1 hS0
  go_upto_region 2 with fail
  generalize w1.setCell ⟨W.heap.size + 1, 0, none⟩ (.int .i64 k) = wE at *
  clear hi0 hf0
  have H0 := Lib.hid (⟨Below.refl _ _, _, _, _, _, _, HA1.out⟩ : SN (w.heap.size + 1) wE wE)
  have cW : ∀ w', SN (w.heap.size + 1) wE w' → w'.cell? ⟨bw, 0, none⟩ = some (.func (.func 25) #[] #[]) := fun w' h => ((HB.out.bel.trans (h.bel.mono (by omega))).cell (by simpa using hbw)).trans hw
  have cX : ∀ w', SN (w.heap.size + 1) wE w' → w'.cell? ⟨w.heap.size, 0, none⟩ = some (.bool x.1) ∧ w'.cell? ⟨w.heap.size, 1, none⟩ = some (.int .i64 x.2.1) ∧ w'.cell? ⟨w.heap.size, 2, none⟩ = some (.int .i64 x.2.2.1) ∧ w'.cell? ⟨w.heap.size, 3, none⟩ = some (.int .u64 x.2.2.2.1) ∧ w'.cell? ⟨w.heap.size, 4, none⟩ = some (.int .u64 x.2.2.2.2) := fun w' h => cells5 ((h.bel.block _ (by omega)).trans HA0.out)
  have cM : ∀ w', SN (w.heap.size + 1) wE w' → w'.cell? ⟨W.heap.size, 0, none⟩ = some (.slice (some ⟨b, off, none⟩) ys.length cap) ∧ w'.cell? ⟨W.heap.size + 1, 0, none⟩ = some (.int .i64 k) := fun w' h => by
    have h1 := (h.bel.block W.heap.size (by omega)).trans HB.out.rm
    have h2 := (h.bel.block (W.heap.size + 1) (by omega)).trans HB.out.ri
    simp [World.cell?, h1, h2]
  have cY : ∀ w', SN (w.heap.size + 1) wE w' → w'.cell? ⟨b, off + k * 5, none⟩ = some (.bool ys[k].1) ∧ w'.cell? ⟨b, off + k * 5 + 1, none⟩ = some (.int .i64 ys[k].2.1) ∧ w'.cell? ⟨b, off + k * 5 + 2, none⟩ = some (.int .i64 ys[k].2.2.1) ∧ w'.cell? ⟨b, off + k * 5 + 3, none⟩ = some (.int .u64 ys[k].2.2.2.1) ∧ w'.cell? ⟨b, off + k * 5 + 4, none⟩ = some (.int .u64 ys[k].2.2.2.2) := fun w' h => by
    have key : ∀ o, w'.cell? ⟨b, o, none⟩ = W.cell? ⟨b, o, none⟩ := fun o => (HB.out.bel.trans (h.bel.mono (by omega))).cell (by simpa using hbl)
    exact ⟨(key _).trans c0, (key _).trans c1, (key _).trans c2, (key _).trans c3, (key _).trans c4⟩
  have cT : ∀ w', SN (w.heap.size + 1) wE w' → (w'.cell? ⟨w.heap.size + 1, 0, none⟩ = some (peek w' ⟨w.heap.size + 1, 0, none⟩) ∧ w'.cell? ⟨w.heap.size + 1, 1, none⟩ = some (peek w' ⟨w.heap.size + 1, 1, none⟩) ∧ w'.cell? ⟨w.heap.size + 1, 2, none⟩ = some (peek w' ⟨w.heap.size + 1, 2, none⟩) ∧ w'.cell? ⟨w.heap.size + 1, 3, none⟩ = some (peek w' ⟨w.heap.size + 1, 3, none⟩) ∧ w'.cell? ⟨w.heap.size + 1, 4, none⟩ = some (peek w' ⟨w.heap.size + 1, 4, none⟩)) ∧
    w'.frozen? ⟨w.heap.size + 1, 0, none⟩ = false ∧ w'.frozen? ⟨w.heap.size + 1, 1, none⟩ = false ∧ w'.frozen? ⟨w.heap.size + 1, 2, none⟩ = false ∧ w'.frozen? ⟨w.heap.size + 1, 3, none⟩ = false ∧ w'.frozen? ⟨w.heap.size + 1, 4, none⟩ = false := fun w' h => h.cells
  clear c0 c1 c2 c3 c4
  go_region_held3 (fun w' => SN (w.heap.size + 1) wE w') (first | assumption | exact SN.drew H0.out | exact SN.put (by assumption) _ _ _ _ _)
    (first
      | (go_at_call 25
         have hS := ‹SN (w.heap.size + 1) wE _›
         refine (HOP.out _ (HB.out.bel.trans (hS.bel.mono (by omega))) x ys[k] HX.out (HR.out.raw _ (List.getElem_mem hk))).mono ?_
         rintro e w'' ⟨rfl, hb⟩
         have hS' := hS.below hb
         have hblk := Lib.hid hS'.blk
         clear hS hb))
  have hS := ‹SN (w.heap.size + 1) wE _›
  have hp := put5_blk hblk.out (.bool (op x ys[k]).1) (.int .i64 (op x ys[k]).2.1) (.int .i64 (op x ys[k]).2.2.1) (.int .u64 (op x ys[k]).2.2.2.1) (.int .u64 (op x ys[k]).2.2.2.2)
  have hbl2 := hS.bel
  have hK2 := Lib.hid (HB.out.below2 (by omega) hbl2)
  have hX2 := Lib.hid (HS.out.below (by omega) hbl2)
  unfold put5 at hp
  obtain ⟨p0, p1, p2, p3, p4⟩ := cells5 (x := op x ys[k]) hp
  clear hS hp hbl2 cW cX cM cY cT
  go_wp2
  refine bodyPost_ret (v := nvx (op x ys[k])) ?_ ?_ ?_
  · simp [results, Tryd.results41, go_sem, p0, p1, p2, p3, p4]
  · with_reducible rfl
  · refine ⟨?_, ?_, ?_⟩
    · with_reducible rfl
    · with_reducible exact hK2.out
    · with_reducible exact hX2.out
set_option maxRecDepth 100000 in
set_option maxHeartbeats 1000000 in
theorem pair28 {W : World} {p : Addr} {op : Nm → Nm → Nm} (hop : Does W 28 [.pointer (some p)] op) : Pairs W 28 [.pointer (some p)] op := by
  intro w bw hbw hw a cap ys hr k hk hB x hx
  have hbig := hr.big
  have hsz := hB.sz
  obtain ⟨b, off, rfl, hbl, c0, c1, c2, c3, c4⟩ := hr.at_ k hk
  have HK := Lib.hid hB
  have HR := Lib.hid hr
  have HX := Lib.hid hx
  have HOP := Lib.hid hop
  have hB0 := hB.below (belA (allocB w (.cells (ncs x) 46)) (Nat.le_refl _) (.cells #[.bool false, .int .i64 0, .int .i64 0, .int .u64 0, .int .u64 0] 46))
  have hA0 : ((w.alloc (.cells (ncs x) 46)).alloc (.cells #[.bool false, .int .i64 0, .int .i64 0, .int .u64 0, .int .u64 0] 46)).heap[w.heap.size]? = some (.cells (ncs x) 46 (0, 0)) := ((allocB _ _).block _ (allocL _ _)).trans (allocR _ _)
  have hA1 : ((w.alloc (.cells (ncs x) 46)).alloc (.cells #[.bool false, .int .i64 0, .int .i64 0, .int .u64 0, .int .u64 0] 46)).heap[w.heap.size + 1]? = some (.cells #[.bool false, .int .i64 0, .int .i64 0, .int .u64 0, .int .u64 0] 46 (0, 0)) := by
    have := allocR (w.alloc (.cells (ncs x) 46)) (.cells #[.bool false, .int .i64 0, .int .i64 0, .int .u64 0, .int .u64 0] 46); simpa using this
  have hS0 : BX (W.heap.size + 1) w ((w.alloc (.cells (ncs x) 46)).alloc (.cells #[.bool false, .int .i64 0, .int .i64 0, .int .u64 0, .int .u64 0] 46)) := BX.of (belA (allocB w _) (Nat.le_refl _) _)
  clear hop hx hr hB
  go_enter Tryd.func41, Tryd.ntmps41
  go_upto_region 1 with fail
  generalize (w.alloc (.cells #[.bool x.1, .int .i64 x.2.1, .int .i64 x.2.2.1, .int .u64 x.2.2.2.1, .int .u64 x.2.2.2.2] 46)).alloc (.cells #[.bool false, .int .i64 0, .int .i64 0, .int .u64 0, .int .u64 0] 46) = w1 at *
  have hi0 : w1.cell? ⟨W.heap.size + 1, 0, none⟩ = some (.int .i64 ((k : Int) - 1)) := by simp [World.cell?, hB0.ri]
  have hf0 : w1.frozen? ⟨W.heap.size + 1, 0, none⟩ = false := by simp [World.frozen?, hB0.ri]
  have HB := Lib.hid (hB0.set (k' := k))
  have HA0 := Lib.hid ((heap_setCell_other w1 ⟨W.heap.size + 1, 0, none⟩ _ (Value.int .i64 k) (by simp; omega)).trans hA0)
  have HA1 := Lib.hid ((heap_setCell_other w1 ⟨W.heap.size + 1, 0, none⟩ _ (Value.int .i64 k) (by simp; omega)).trans hA1)
  have HS := Lib.hid (hS0.trans (BX.set (i := 0) w1 (Value.int .i64 k)))
  clear hB0 hA0 hA1 hS0
  go_upto_region 2 with fail
  generalize w1.setCell ⟨W.heap.size + 1, 0, none⟩ (.int .i64 k) = wE at *
  clear hi0 hf0
  have H0 := Lib.hid (⟨Below.refl _ _, _, _, _, _, _, HA1.out⟩ : SN (w.heap.size + 1) wE wE)
  have cW : ∀ w', SN (w.heap.size + 1) wE w' → w'.cell? ⟨bw, 0, none⟩ = some (.func (.func 28) #[] #[Value.pointer (some p)]) := fun w' h => ((HB.out.bel.trans (h.bel.mono (by omega))).cell (by simpa using hbw)).trans hw
  have cX : ∀ w', SN (w.heap.size + 1) wE w' → w'.cell? ⟨w.heap.size, 0, none⟩ = some (.bool x.1) ∧ w'.cell? ⟨w.heap.size, 1, none⟩ = some (.int .i64 x.2.1) ∧ w'.cell? ⟨w.heap.size, 2, none⟩ = some (.int .i64 x.2.2.1) ∧ w'.cell? ⟨w.heap.size, 3, none⟩ = some (.int .u64 x.2.2.2.1) ∧ w'.cell? ⟨w.heap.size, 4, none⟩ = some (.int .u64 x.2.2.2.2) := fun w' h => cells5 ((h.bel.block _ (by omega)).trans HA0.out)
  have cM : ∀ w', SN (w.heap.size + 1) wE w' → w'.cell? ⟨W.heap.size, 0, none⟩ = some (.slice (some ⟨b, off, none⟩) ys.length cap) ∧ w'.cell? ⟨W.heap.size + 1, 0, none⟩ = some (.int .i64 k) := fun w' h => by
    have h1 := (h.bel.block W.heap.size (by omega)).trans HB.out.rm
    have h2 := (h.bel.block (W.heap.size + 1) (by omega)).trans HB.out.ri
    simp [World.cell?, h1, h2]
  have cY : ∀ w', SN (w.heap.size + 1) wE w' → w'.cell? ⟨b, off + k * 5, none⟩ = some (.bool ys[k].1) ∧ w'.cell? ⟨b, off + k * 5 + 1, none⟩ = some (.int .i64 ys[k].2.1) ∧ w'.cell? ⟨b, off + k * 5 + 2, none⟩ = some (.int .i64 ys[k].2.2.1) ∧ w'.cell? ⟨b, off + k * 5 + 3, none⟩ = some (.int .u64 ys[k].2.2.2.1) ∧ w'.cell? ⟨b, off + k * 5 + 4, none⟩ = some (.int .u64 ys[k].2.2.2.2) := fun w' h => by
    have key : ∀ o, w'.cell? ⟨b, o, none⟩ = W.cell? ⟨b, o, none⟩ := fun o => (HB.out.bel.trans (h.bel.mono (by omega))).cell (by simpa using hbl)
    exact ⟨(key _).trans c0, (key _).trans c1, (key _).trans c2, (key _).trans c3, (key _).trans c4⟩
  have cT : ∀ w', SN (w.heap.size + 1) wE w' → (w'.cell? ⟨w.heap.size + 1, 0, none⟩ = some (peek w' ⟨w.heap.size + 1, 0, none⟩) ∧ w'.cell? ⟨w.heap.size + 1, 1, none⟩ = some (peek w' ⟨w.heap.size + 1, 1, none⟩) ∧ w'.cell? ⟨w.heap.size + 1, 2, none⟩ = some (peek w' ⟨w.heap.size + 1, 2, none⟩) ∧ w'.cell? ⟨w.heap.size + 1, 3, none⟩ = some (peek w' ⟨w.heap.size + 1, 3, none⟩) ∧ w'.cell? ⟨w.heap.size + 1, 4, none⟩ = some (peek w' ⟨w.heap.size + 1, 4, none⟩)) ∧
    w'.frozen? ⟨w.heap.size + 1, 0, none⟩ = false ∧ w'.frozen? ⟨w.heap.size + 1, 1, none⟩ = false ∧ w'.frozen? ⟨w.heap.size + 1, 2, none⟩ = false ∧ w'.frozen? ⟨w.heap.size + 1, 3, none⟩ = false ∧ w'.frozen? ⟨w.heap.size + 1, 4, none⟩ = false := fun w' h => h.cells
  clear c0 c1 c2 c3 c4
  go_region_held3 (fun w' => SN (w.heap.size + 1) wE w') (first | assumption | exact SN.drew H0.out | exact SN.put (by assumption) _ _ _ _ _)
    (first
      | (go_at_call 28
         have hS := ‹SN (w.heap.size + 1) wE _›
         refine (HOP.out _ (HB.out.bel.trans (hS.bel.mono (by omega))) x ys[k] HX.out (HR.out.raw _ (List.getElem_mem hk))).mono ?_
         rintro e w'' ⟨rfl, hb⟩
         have hS' := hS.below hb
         have hblk := Lib.hid hS'.blk
         clear hS hb))
  have hS := ‹SN (w.heap.size + 1) wE _›
  have hp := put5_blk hblk.out (.bool (op x ys[k]).1) (.int .i64 (op x ys[k]).2.1) (.int .i64 (op x ys[k]).2.2.1) (.int .u64 (op x ys[k]).2.2.2.1) (.int .u64 (op x ys[k]).2.2.2.2)
  have hbl2 := hS.bel
  have hK2 := Lib.hid (HB.out.below2 (by omega) hbl2)
  have hX2 := Lib.hid (HS.out.below (by omega) hbl2)
  unfold put5 at hp
  obtain ⟨p0, p1, p2, p3, p4⟩ := cells5 (x := op x ys[k]) hp
  clear hS hp hbl2 cW cX cM cY cT
  go_wp2
  refine bodyPost_ret (v := nvx (op x ys[k])) ?_ ?_ ?_
  · simp [results, Tryd.results41, go_sem, p0, p1, p2, p3, p4]
  · with_reducible rfl
  · refine ⟨?_, ?_, ?_⟩
    · with_reducible rfl
    · with_reducible exact hK2.out
    · with_reducible exact hX2.out
theorem does_join {W : World} (hG : GOK G W) : Does W 27 [] joinS := fun w' hb x y hx hy => k_join (gok_b hG (Nat.le_refl _) hb) hx hy
theorem does_meet {W : World} (hG : GOK G W) : Does W 25 [] meetS := fun w' hb x y hx hy => k_meet (gok_b hG (Nat.le_refl _) hb) hx hy
set_option maxRecDepth 100000 in
set_option maxHeartbeats 1000000 in
theorem wid1_walk {W : World} (hG : GOK G W) {p : Nat} {a : Option Addr} {cap : Nat} {zs : List Int} (hp : p < W.heap.size) (hc : W.cell? ⟨p, 0, none⟩ = some (.slice a zs.length cap)) (hz : Thr W a zs) {x y : Nm} (hx : Raw x) (hy : Raw y) :
    Calls P 28 #[nvx x, nvx y, .pointer (some ⟨p, 0, none⟩)] W fun e w' => e = .returned (nvx (widS zs x y)) ∧ Below W.heap.size W w' := by
  have HG := Lib.hid hG
  have HZ := Lib.hid hz
  clear hG hz
  have hB := belA (belA (allocB W (.cells (ncs x) 46)) (Nat.le_refl _) (.cells (ncs y) 46)) (Nat.le_refl _) (.cells #[.bool false, .int .i64 0, .int .i64 0, .int .u64 0, .int .u64 0] 46)
  have hX : (((W.alloc (.cells (ncs x) 46)).alloc (.cells (ncs y) 46)).alloc (.cells #[.bool false, .int .i64 0, .int .i64 0, .int .u64 0, .int .u64 0] 46)).heap[W.heap.size]? = some (.cells (ncs x) 46 (0, 0)) :=
    ((belA (allocB _ _) (Nat.le_refl _) _).block _ (by simp)).trans (allocR _ _)
  have hY : (((W.alloc (.cells (ncs x) 46)).alloc (.cells (ncs y) 46)).alloc (.cells #[.bool false, .int .i64 0, .int .i64 0, .int .u64 0, .int .u64 0] 46)).heap[W.heap.size + 1]? = some (.cells (ncs y) 46 (0, 0)) := by
    have h := allocR (W.alloc (.cells (ncs x) 46)) (.cells (ncs y) 46)
    exact ((allocB _ _).block _ (by simp)).trans (by simpa using h)
  have hD : (((W.alloc (.cells (ncs x) 46)).alloc (.cells (ncs y) 46)).alloc (.cells #[.bool false, .int .i64 0, .int .i64 0, .int .u64 0, .int .u64 0] 46)).heap[W.heap.size + 2]? = some (.cells #[.bool false, .int .i64 0, .int .i64 0, .int .u64 0, .int .u64 0] 46 (0, 0)) := by
    have h := allocR ((W.alloc (.cells (ncs x) 46)).alloc (.cells (ncs y) 46)) (.cells #[.bool false, .int .i64 0, .int .i64 0, .int .u64 0, .int .u64 0] 46)
    simpa using h
  have hS : W.heap.size + 2 < (((W.alloc (.cells (ncs x) 46)).alloc (.cells (ncs y) 46)).alloc (.cells #[.bool false, .int .i64 0, .int .i64 0, .int .u64 0, .int .u64 0] 46)).heap.size := by simp
  go_enter Tryd.func28, Tryd.ntmps28
  go_upto_region 1 with fail
  generalize ((W.alloc (.cells #[.bool x.1, .int .i64 x.2.1, .int .i64 x.2.2.1, .int .u64 x.2.2.2.1, .int .u64 x.2.2.2.2] 46)).alloc (.cells #[.bool y.1, .int .i64 y.2.1, .int .i64 y.2.2.1, .int .u64 y.2.2.2.1, .int .u64 y.2.2.2.2] 46)).alloc (.cells #[.bool false, .int .i64 0, .int .i64 0, .int .u64 0, .int .u64 0] 46) = w1 at *
  have HB := Lib.hid hB
  have HD := Lib.hid hD
  have HSZ := Lib.hid hS
  have hcp : w1.cell? ⟨p, 0, none⟩ = some (.slice a zs.length cap) := (hB.cell (by simpa using hp)).trans hc
  obtain ⟨x0, x1, x2, x3, x4⟩ := cells5 hX
  obtain ⟨y0, y1, y2, y3, y4⟩ := cells5 hY
  clear hB hX hY hD hS
  go_wp2_with (go_at_call 29; refine (k_wid (gok_b HG.out (Nat.le_refl _) HB.out) (HZ.out.below HB.out) hx hy).mono ?_; rintro e W2 ⟨rfl, hb⟩; refine Hid.out ?_)
  have HS := Lib.hid (⟨(HB.out.trans (hb.mono HB.out.size)).mono (Nat.le_refl _), _, _, _, _, _, (hb.block _ HSZ.out).trans HD.out⟩ : Below W.heap.size W W2 ∧ ∃ x0 x1 x2 x3 x4, W2.heap[W.heap.size + 2]? = some (.cells #[x0, x1, x2, x3, x4] 46 (0, 0)))
  clear hb HB HD
  obtain ⟨x0, x1, x2, x3, x4, hblk⟩ := HS.out.2
  have hc0 : W2.cell? ⟨W.heap.size + 2, 0, none⟩ = some x0 ∧ W2.cell? ⟨W.heap.size + 2, 1, none⟩ = some x1 ∧ W2.cell? ⟨W.heap.size + 2, 2, none⟩ = some x2 ∧ W2.cell? ⟨W.heap.size + 2, 3, none⟩ = some x3 ∧ W2.cell? ⟨W.heap.size + 2, 4, none⟩ = some x4 ∧
      W2.frozen? ⟨W.heap.size + 2, 0, none⟩ = false ∧ W2.frozen? ⟨W.heap.size + 2, 1, none⟩ = false ∧ W2.frozen? ⟨W.heap.size + 2, 2, none⟩ = false ∧ W2.frozen? ⟨W.heap.size + 2, 3, none⟩ = false ∧ W2.frozen? ⟨W.heap.size + 2, 4, none⟩ = false := by
    refine ⟨?_, ?_, ?_, ?_, ?_, ?_, ?_, ?_, ?_, ?_⟩ <;> simp [World.cell?, World.frozen?, hblk]
  obtain ⟨d0, d1, d2, d3, d4, f0, f1, f2, f3, f4⟩ := hc0
  have HP := Lib.hid (put5_blk ⟨_, _, _, _, _, hblk⟩ (.bool (widS zs x y).1) (.int .i64 (widS zs x y).2.1) (.int .i64 (widS zs x y).2.2.1) (.int .u64 (widS zs x y).2.2.2.1) (.int .u64 (widS zs x y).2.2.2.2))
  have HQ := Lib.hid (HS.out.1.trans (put5_bel (b := W.heap.size + 2) W2 (by omega) (.bool (widS zs x y).1) (.int .i64 (widS zs x y).2.1) (.int .i64 (widS zs x y).2.2.1) (.int .u64 (widS zs x y).2.2.2.1) (.int .u64 (widS zs x y).2.2.2.2)))
  clear hblk
  refine Lib.hid ?_
  go_wp2
  have hp2 := HP.out
  unfold put5 at hp2
  obtain ⟨p0, p1, p2, p3, p4⟩ := cells5 (x := widS zs x y) hp2
  refine bodyPost_ret (v := nvx (widS zs x y)) ?_ rfl ⟨rfl, HQ.out⟩
  simp [results, Tryd.results28, go_sem, p0, p1, p2, p3, p4]
theorem does_wid {W : World} (hG : GOK G W) {p : Nat} {a : Option Addr} {cap : Nat} {zs : List Int} (hp : p < W.heap.size) (hc : W.cell? ⟨p, 0, none⟩ = some (.slice a zs.length cap)) (hz : Thr W a zs) : Does W 28 [.pointer (some ⟨p, 0, none⟩)] (widS zs) := fun w' hb x y hx hy =>
  wid1_walk (gok_b hG (Nat.le_refl _) hb) (Nat.lt_of_lt_of_le hp hb.size) ((hb.cell (by simpa using hp)).trans hc) (hz.below hb) hx hy
theorem join_raw {x y : Nm} (hx : Raw x) (hy : Raw y) : Raw (joinS x y) := (join_nf hx hy).raw
theorem meet_raw {x y : Nm} (hx : Raw x) (hy : Raw y) : Raw (meetS x y) := (meet_nf hx hy).raw
theorem wid_raw (zs : List Int) {x y : Nm} (hx : Raw x) (hy : Raw y) : Raw (widS zs x y) := (widN_spec (norm_nf hx) (norm_nf hy) zs).1.raw
theorem e_meet {W : World} (hG : GOK G W) {v v' : Value} {E F : EnvP} (hE : EnvAt W v E) (hF : EnvAt W v' F) : Calls P 9 #[v, v'] W (Envd W (meetE E F)) :=
  meet_walk (fun w' hb => pair25 (does_meet (gok_b hG (Nat.le_refl _) hb))) (fun _ _ => meet_raw) hG hE hF
end Go.Proofs.YtmadebejnhinoaaDoor.V


set_option linter.unusedVariables false
set_option linter.unusedSimpArgs false
namespace Go.Proofs.YtmadebejnhinoaaDoor.V
open Go Go.Wk Go.RowKit

/-- the memory of Widen: two stores, the thresholds, the result -/
structure W4 (W w : World) (u v f : Value) (su sa sv sb : Value) (d d' : Bool) : Prop where
  bel : Below W.heap.size W w
  sz : W.heap.size + 3 < w.heap.size
  rA : w.heap[W.heap.size]? = some (.cells #[.bool d, su, sa] 24 (0, 0))
  rB : w.heap[W.heap.size + 1]? = some (.cells #[.bool d', sv, sb] 24 (0, 0))
  rC : w.heap[W.heap.size + 2]? = some (.cells #[f] 25 (0, 0))
  rD : w.heap[W.heap.size + 3]? = some (.cells #[.bool false, .slice none 0 0, .slice none 0 0] 24 (0, 0))
theorem w4_start (W : World) (f su sa sv sb : Value) (d d' : Bool) : W4 W ((((W.alloc (.cells #[.bool d, su, sa] 24)).alloc (.cells #[.bool d', sv, sb] 24)).alloc (.cells #[f] 25)).alloc (.cells #[.bool false, .slice none 0 0, .slice none 0 0] 24)) undef undef f su sa sv sb d d' where
  bel := belA (belA (belA (allocB W _) (Nat.le_refl _) _) (Nat.le_refl _) _) (Nat.le_refl _) _
  sz := by simp
  rA := by
    have := PB.start2 W d d' su sa sv sb
    exact ((belA (allocB _ _) (Nat.le_refl _) _).block _ (by simp; omega)).trans this.rA
  rB := by
    have := PB.start2 W d d' su sa sv sb
    exact ((belA (allocB _ _) (Nat.le_refl _) _).block _ (by simp)).trans this.rB
  rC := by
    have h := allocR ((W.alloc (.cells #[.bool d, su, sa] 24)).alloc (.cells #[.bool d', sv, sb] 24)) (.cells #[f] 25)
    exact ((allocB _ _).block _ (by simp)).trans (by simpa using h)
  rD := by
    have h := allocR (((W.alloc (.cells #[.bool d, su, sa] 24)).alloc (.cells #[.bool d', sv, sb] 24)).alloc (.cells #[f] 25)) (.cells #[.bool false, .slice none 0 0, .slice none 0 0] 24)
    simpa using h
theorem W4.below {W w w' : World} {u v f su sa sv sb : Value} {d d' : Bool} (h : W4 W w u v f su sa sv sb d d') (hb : Below w.heap.size w w') : W4 W w' u v f su sa sv sb d d' where
  bel := h.bel.trans (hb.mono h.bel.size)
  sz := Nat.lt_of_lt_of_le h.sz hb.size
  rA := (hb.block _ (by have := h.sz; omega)).trans h.rA
  rB := (hb.block _ (by have := h.sz; omega)).trans h.rB
  rC := (hb.block _ (by have := h.sz; omega)).trans h.rC
  rD := (hb.block _ h.sz).trans h.rD
theorem W4.putD {W w : World} {u v f su sa sv sb : Value} {d d' : Bool} (h : W4 W w u v f su sa sv sb d d') (x y z : Value) : Below W.heap.size W (set3 w (W.heap.size + 3) x y z) ∧ (set3 w (W.heap.size + 3) x y z).heap[W.heap.size + 3]? = some (.cells #[x, y, z] 24 (0, 0)) :=
  ⟨((h.bel.trans (set_bel' w _ (by omega))).trans (set_bel' _ _ (by omega))).trans (set_bel' _ _ (by omega)), (heap_set0' (heap_set0' (heap_set0' h.rD))).trans (by simp)⟩
set_option maxRecDepth 100000 in
set_option maxHeartbeats 1000000 in
theorem join_walk {W : World} (hG : GOK G W) {v v' : Value} {E F : EnvP} (hE : EnvAt W v E) (hF : EnvAt W v' F) : Calls P 10 #[v, v'] W (Envd W (joinE E F)) := by
  have HE := Lib.hid hE
  have HF := Lib.hid hF
  have HG := Lib.hid hG
  obtain ⟨_, _, rfl, ⟨a, c, rfl, _⟩, ⟨b, d, rfl, _⟩⟩ := hE
  obtain ⟨_, _, rfl, ⟨a', c', rfl, _⟩, ⟨b', d', rfl, _⟩⟩ := hF
  clear hG
  have H0 := Lib.hid (PC.start W E.dead F.dead (.slice a E.vs.length c) (.slice b E.ars.length d) (.slice a' F.vs.length c') (.slice b' F.ars.length d'))
  go_enter Tryd.func10, Tryd.ntmps10
  go_upto_region 1 with fail
  generalize ((W.alloc (.cells #[.bool E.dead, .slice a E.vs.length c, .slice b E.ars.length d] 24)).alloc (.cells #[.bool F.dead, .slice a' F.vs.length c', .slice b' F.ars.length d'] 24)).alloc (.cells #[.bool false, .slice none 0 0, .slice none 0 0] 24) = wE at *
  obtain ⟨c0, c1, c2, _, _, _⟩ := cells3 H0.out.rA
  obtain ⟨e0, e1, e2, _, _, _⟩ := cells3 H0.out.rB
  have HP2 := H0
  go_wp2_with (go_at_call 26; refine (wider_walk (g := 27) (caps := []) (op := joinS) (fun w' hb => pair27 (does_join (gok_b HG.out (Nat.le_refl _) (H0.out.bel.trans (hb.mono H0.out.bel.size))))) (fun _ _ => join_raw) (gok_b HG.out (Nat.le_refl _) H0.out.bel) (HE.out.below H0.out.bel) (HF.out.below H0.out.bel)).mono ?_; rintro e W3 ⟨lv, rfl, hb, henv⟩; refine Hid.out ?_)
  have henv : EnvF wE.heap.size W3 lv (joinE E F) := henv
  clear c0 c1 c2 e0 e1 e2
  have HP3 := Lib.hid (HP2.out.below hb)
  obtain ⟨s1, s2, rfl, ⟨⟨y1, n1, rfl, hy1⟩, k1⟩, ⟨⟨y2, n2, rfl, hy2⟩, k2⟩⟩ := henv
  have hsz := HP2.out.sz
  have henv := EnvF.mono (B' := W.heap.size + 3) (show EnvF _ W3 (evx _ (.slice y1 _ n1) (.slice y2 _ n2)) _ from ⟨_, _, rfl, ⟨⟨y1, n1, rfl, hy1⟩, k1⟩, ⟨⟨y2, n2, rfl, hy2⟩, k2⟩⟩) hsz
  clear hb hy1 hy2 k1 k2
  obtain ⟨q0, q1, q2, f0, f1, f2⟩ := cells3 HP3.out.rC
  have HQ := Lib.hid (HP3.out.putC (.bool ((joinE E F)).dead) (.slice y1 ((joinE E F)).vs.length n1) (.slice y2 ((joinE E F)).ars.length n2))
  have HE2 := Lib.hid ((((henv.set (b := W.heap.size + 2) (i := 0) (u := .bool ((joinE E F)).dead) (by omega)).set (b := W.heap.size + 2) (i := 1) (u := .slice y1 ((joinE E F)).vs.length n1) (by omega)).set (b := W.heap.size + 2) (i := 2) (u := .slice y2 ((joinE E F)).ars.length n2) (by omega)).mono (B' := W.heap.size) (by omega))
  clear henv
  refine Lib.hid ?_
  go_wp2
  obtain ⟨p0, p1, p2, _, _, _⟩ := cells3 HQ.out.2
  unfold set3 at p0 p1 p2
  refine bodyPost_ret (v := evx ((joinE E F)).dead (.slice y1 ((joinE E F)).vs.length n1) (.slice y2 ((joinE E F)).ars.length n2)) ?_ rfl ⟨_, rfl, HQ.out.1, HE2.out⟩
  simp [results, Tryd.results10, go_sem, p0, p1, p2]
set_option maxRecDepth 100000 in
set_option maxHeartbeats 1000000 in
theorem widen_walk {W : World} (hG : GOK G W) {v v' : Value} {E F : EnvP} (hE : EnvAt W v E) (hF : EnvAt W v' F) {t : Option Addr} {tc : Nat} {zs : List Int} (hz : Thr W t zs) : Calls P 11 #[v, v', .slice t zs.length tc] W (Envd W (widE zs E F)) := by
  have HE := Lib.hid hE
  have HF := Lib.hid hF
  have HG := Lib.hid hG
  have HZ := Lib.hid hz
  obtain ⟨_, _, rfl, ⟨a, c, rfl, _⟩, ⟨b, d, rfl, _⟩⟩ := hE
  obtain ⟨_, _, rfl, ⟨a', c', rfl, _⟩, ⟨b', d', rfl, _⟩⟩ := hF
  clear hG hz
  have H0 := Lib.hid (w4_start W (.slice t zs.length tc) (.slice a E.vs.length c) (.slice b E.ars.length d) (.slice a' F.vs.length c') (.slice b' F.ars.length d') E.dead F.dead)
  go_enter Tryd.func11, Tryd.ntmps11
  go_upto_region 1 with fail
  generalize (((W.alloc (.cells #[.bool E.dead, .slice a E.vs.length c, .slice b E.ars.length d] 24)).alloc (.cells #[.bool F.dead, .slice a' F.vs.length c', .slice b' F.ars.length d'] 24)).alloc (.cells #[.slice t zs.length tc] 25)).alloc (.cells #[.bool false, .slice none 0 0, .slice none 0 0] 24) = wE at *
  obtain ⟨c0, c1, c2, _, _, _⟩ := cells3 H0.out.rA
  obtain ⟨e0, e1, e2, _, _, _⟩ := cells3 H0.out.rB
  have HP2 := H0
  have hcz : wE.cell? ⟨W.heap.size + 2, 0, none⟩ = some (.slice t zs.length tc) := by simp [World.cell?, H0.out.rC]
  have HCZ := Lib.hid hcz
  have hsz := H0.out.sz
  clear hcz
  go_wp2_with (go_at_call 26; refine (wider_walk (g := 28) (caps := [.pointer (some ⟨W.heap.size + 2, 0, none⟩)]) (op := widS zs) (fun w' hb => pair28 (does_wid (gok_b HG.out (Nat.le_refl _) (H0.out.bel.trans (hb.mono H0.out.bel.size))) (Nat.lt_of_lt_of_le (by omega) hb.size) ((hb.cell (by simp; omega)).trans HCZ.out) (HZ.out.below (H0.out.bel.trans (hb.mono H0.out.bel.size))))) (fun _ _ => wid_raw zs) (gok_b HG.out (Nat.le_refl _) H0.out.bel) (HE.out.below H0.out.bel) (HF.out.below H0.out.bel)).mono ?_; rintro e W3 ⟨lv, rfl, hb, henv⟩; refine Hid.out ?_)
  have henv : EnvF wE.heap.size W3 lv (widE zs E F) := henv
  clear c0 c1 c2 e0 e1 e2
  have HP3 := Lib.hid (HP2.out.below hb)
  obtain ⟨s1, s2, rfl, ⟨⟨y1, n1, rfl, hy1⟩, k1⟩, ⟨⟨y2, n2, rfl, hy2⟩, k2⟩⟩ := henv
  have henv := EnvF.mono (B' := W.heap.size + 4) (show EnvF _ W3 (evx _ (.slice y1 _ n1) (.slice y2 _ n2)) _ from ⟨_, _, rfl, ⟨⟨y1, n1, rfl, hy1⟩, k1⟩, ⟨⟨y2, n2, rfl, hy2⟩, k2⟩⟩) hsz
  clear hb hy1 hy2 k1 k2
  obtain ⟨q0, q1, q2, f0, f1, f2⟩ := cells3 HP3.out.rD
  have HQ := Lib.hid (HP3.out.putD (.bool (widE zs E F).dead) (.slice y1 (widE zs E F).vs.length n1) (.slice y2 (widE zs E F).ars.length n2))
  have HE2 := Lib.hid ((((henv.set (b := W.heap.size + 3) (i := 0) (u := .bool (widE zs E F).dead) (by omega)).set (b := W.heap.size + 3) (i := 1) (u := .slice y1 (widE zs E F).vs.length n1) (by omega)).set (b := W.heap.size + 3) (i := 2) (u := .slice y2 (widE zs E F).ars.length n2) (by omega)).mono (B' := W.heap.size) (by omega))
  clear henv
  refine Lib.hid ?_
  go_wp2
  obtain ⟨p0, p1, p2, _, _, _⟩ := cells3 HQ.out.2
  unfold set3 at p0 p1 p2
  refine bodyPost_ret (v := evx (widE zs E F).dead (.slice y1 (widE zs E F).vs.length n1) (.slice y2 (widE zs E F).ars.length n2)) ?_ rfl ⟨_, rfl, HQ.out.1, HE2.out⟩
  simp [results, Tryd.results11, go_sem, p0, p1, p2]
end Go.Proofs.YtmadebejnhinoaaDoor.V

