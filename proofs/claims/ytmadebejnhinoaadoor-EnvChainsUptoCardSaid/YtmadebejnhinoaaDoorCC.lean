/- Chapter 15: shaped, of; the search in a list of words; Chapter 15: the search of Has in a list of words; Chapter 15: Has; Chapter 15: Same. Conditions: none. -/
import Derived.Test.YtmadebejnhinoaaDoorCB
import Derived.Test.YtmadebejnhinoaaDoorCA

set_option linter.unusedVariables false
set_option linter.unusedSimpArgs false
namespace Go.Proofs.YtmadebejnhinoaaDoor.V
open Go Go.Wk Go.RowKit

set_option maxRecDepth 100000 in
set_option maxHeartbeats 1000000 in
theorem shaped_walk {W : World} {v v' : Value} {E F : EnvP} (hE : EnvAt W v E) (hF : EnvAt W v' F) : Calls P 12 #[v, v'] W fun e w' => e = .returned (.bool (E.dead || (F.dead || !unlikeE E F))) ∧ Below W.heap.size W w' := by
  obtain ⟨_, _, rfl, ⟨a, c, rfl, r1⟩, ⟨b, d, rfl, r2⟩⟩ := hE
  obtain ⟨_, _, rfl, ⟨a', c', rfl, r3⟩, ⟨b', d', rfl, r4⟩⟩ := hF
  have hb1 := r1.big
  have hb2 := r2.big
  have hb3 := r3.big
  have hb4 := r4.big
  clear r1 r2 r3 r4
  have HU := Lib.hid (show unlikeE E F = (!decide (E.vs.length = F.vs.length) || !decide (E.ars.length = F.ars.length)) from rfl)
  obtain ⟨de, vs, ars⟩ := E
  obtain ⟨df, vs', ars'⟩ := F
  simp only at *
  go_enter Tryd.func12, Tryd.ntmps12
  cases de with
  | true =>
    go_wp2
    go_ret
    exact ⟨by simp, belA (allocB W _) (Nat.le_refl _) _⟩
  | false =>
    cases df with
    | true =>
      go_wp2
      go_ret
      exact ⟨by simp, belA (allocB W _) (Nat.le_refl _) _⟩
    | false =>
      by_cases h1 : vs.length = vs'.length
      · by_cases h2 : ars.length = ars'.length
        · go_wp2
          go_ret
          exact ⟨by rw [HU.out]; simp [h1, h2], belA (allocB W _) (Nat.le_refl _) _⟩
        · go_wp2
          go_ret
          exact ⟨by rw [HU.out]; simp [h1, h2]; try omega, belA (allocB W _) (Nat.le_refl _) _⟩
      · go_wp2
        go_ret
        exact ⟨by rw [HU.out]; simp [h1], belA (allocB W _) (Nat.le_refl _) _⟩
set_option maxRecDepth 100000 in
set_option maxHeartbeats 1000000 in
theorem of_walk {W : World} {v : Value} {xs : List Nm} (h : SlA W v xs) : Calls P 15 #[v] W fun e w' => ∃ u, e = .returned u ∧ Below W.heap.size W w' ∧ EnvAt w' u ⟨false, xs, []⟩ := by
  obtain ⟨a, c, rfl, r⟩ := h
  have HR := Lib.hid r
  clear r
  go_enter Tryd.func15, Tryd.ntmps15
  go_wp2
  refine bodyPost_ret (v := evx false (.slice a xs.length c) (.slice none 0 0)) (by simp [results, Tryd.results15, go_sem]) rfl ⟨_, rfl, by first | exact allocB _ _ | exact (allocB _ _).trans (by simpa using Below.refl _ _), ?_⟩
  exact ⟨_, _, rfl, ⟨_, c, rfl, HR.out.below (allocB _ _)⟩, ⟨none, ⟨0, by simp⟩, rfl, row_nil _⟩⟩
set_option maxRecDepth 100000 in
set_option maxHeartbeats 1000000 in
theorem hasnt_walk {W : World} (hG : GOK G W) {b i : Nat} {d : Bool} {sv : Value} {a : Option Addr} {cap k : Nat} {xs : List Nm} (hb : W.heap[b]? = some (.cells #[.bool d, sv, .slice a xs.length cap] 24 (0, 0))) (hi : W.cell? ⟨i, 0, none⟩ = some (.int .i64 k)) (hr : Row W a xs) (hk : k < xs.length) {v : Int} (hv : I64 v) :
    Calls P 34 #[.int .i64 v, .pointer (some ⟨b, 0, none⟩), .pointer (some ⟨i, 0, none⟩)] W fun e w' => e = .returned (.bool (!decide (In xs[k] v))) ∧ Below W.heap.size W w' := by
  have hbig := hr.big
  have HG := Lib.hid hG
  have HV := Lib.hid hv
  have HX := Lib.hid (hr.raw _ (List.getElem_mem hk))
  obtain ⟨b', off, rfl, hbl, c0, c1, c2, c3, c4⟩ := hr.at_ k hk
  obtain ⟨d0, d1, d2, _, _, _⟩ := cells3 hb
  clear hG hv hr hb
  go_enter Tryd.func34, Tryd.ntmps34
  go_wp2_with (go_at_call 18; refine (k_has (gok_b HG.out (Nat.le_refl _) (Below.refl _ _)) HX.out HV.out).mono ?_; rintro e W2 ⟨rfl, hb⟩; refine Hid.out ?_)
  have HB := Lib.hid hb
  clear hb
  refine Lib.hid ?_
  go_wp2
  go_ret
  exact ⟨rfl, HB.out⟩
end Go.Proofs.YtmadebejnhinoaaDoor.V


set_option linter.unusedVariables false
set_option linter.unusedSimpArgs false
namespace Go.Proofs.YtmadebejnhinoaaDoor.V
open Go Go.Wk Go.RowKit

/-- the closure's memory: a store's variable, a counter -/
structure HC (W : World) (b i : Nat) (xs : List Nm) (k : Nat) : Prop where
  st : ∃ d sv a cap, W.heap[b]? = some (.cells #[.bool d, sv, .slice a xs.length cap] 24 (0, 0)) ∧ Row W a xs
  ct : W.heap[i]? = some (.cells #[.int .i64 k] 3 (0, 0))
theorem HC.lt {W : World} {b i : Nat} {xs : List Nm} {k : Nat} (h : HC W b i xs k) : b < W.heap.size ∧ i < W.heap.size := by
  obtain ⟨_, _, _, _, e, _⟩ := h.st
  exact ⟨(Array.getElem?_eq_some_iff.1 e).1, (Array.getElem?_eq_some_iff.1 h.ct).1⟩
theorem HC.below {W W' : World} {b i : Nat} {xs : List Nm} {k : Nat} (h : HC W b i xs k) (hb : Below W.heap.size W W') : HC W' b i xs k := by
  obtain ⟨d, sv, a, cap, e, r⟩ := h.st
  exact ⟨⟨d, sv, a, cap, (hb.block _ h.lt.1).trans e, r.below hb⟩, (hb.block _ h.lt.2).trans h.ct⟩
theorem hasnt {W : World} (hG : GOK G W) {b i : Nat} {k : Nat} {xs : List Nm} (h : HC W b i xs k) (hk : k < xs.length) {v : Int} (hv : I64 v) :
    Calls P 34 #[.int .i64 v, .pointer (some ⟨b, 0, none⟩), .pointer (some ⟨i, 0, none⟩)] W fun e w' => e = .returned (.bool (!decide (In xs[k] v))) ∧ Below W.heap.size W w' := by
  obtain ⟨d, sv, a, cap, e, r⟩ := h.st
  exact hasnt_walk hG e (by simp [World.cell?, h.ct]) r hk hv
abbrev outOf (x : Nm) (zs : List Int) : Bool := zs.any fun v => !decide (In x v)
set_option maxRecDepth 100000 in
set_option maxHeartbeats 2000000 in
theorem index2_walk {W : World} (hG : GOK G W) {b i q : Nat} {xs : List Nm} (h : HC W b i xs q) (hq : q < xs.length) {a : Option Addr} {cap : Nat} {zs : List Int} (hz : Thr W a zs) (h64 : ∀ v ∈ zs, I64 v) :
    Calls P 50 #[.slice a zs.length cap, .func (.func 34) #[] #[.pointer (some ⟨b, 0, none⟩), .pointer (some ⟨i, 0, none⟩)]] W (Found W (outOf xs[q] zs)) := by
  have hbig := hz.big
  have HG := Lib.hid hG
  have HZ := Lib.hid hz
  have HH := Lib.hid h
  clear hG hz h
  have HB0 := Lib.hid (Below.refl W.heap.size W)
  generalize hx : xs[q] = x
  go_enter Tryd.func50, Tryd.ntmps50
  go_wp2
  go_loopw [8] (fun i wx => ∃ k : Nat, k ≤ zs.length ∧ i = .int .i64 k ∧ outOf x (zs.drop k) = outOf x zs ∧ Below W.heap.size W wx) (fun i _ => zs.length - (intOf i).toNat)
  case atStart => exact ⟨0, Nat.zero_le _, rfl, by simp, HB0.out⟩
  case round =>
    obtain ⟨k, hk, rfl, hd, hL⟩ := hrel
    have HE := Lib.hid hL
    have HD := Lib.hid hd
    clear hL HB0 hd
    by_cases hlt : k < zs.length
    · obtain ⟨b', off, rfl, hbl, c0⟩ := (HZ.out.below HE.out).at_ k hlt
      go_wp2_with (go_at_call 34; refine (hasnt (gok_b HG.out (Nat.le_refl _) HE.out) (HH.out.below HE.out) hq (h64 _ (List.getElem_mem hlt))).mono ?_; rintro e W2 ⟨rfl, hb⟩; refine Hid.out ?_)
      have HE2 := Lib.hid (HE.out.trans (hb.mono HE.out.size))
      have hstep : outOf x (zs.drop k) = (!decide (In x zs[k]) || outOf x (zs.drop (k + 1))) := by rw [List.drop_eq_getElem_cons hlt]; rfl
      have HS := Lib.hid hstep
      clear hb HE c0 hstep
      refine Lib.hid ?_
      cases hb : (!decide (In x zs[k])) with
      | true =>
        have hv := HS.out
        rw [hb, HD.out] at hv
        have HV := Lib.hid hv
        clear hv hb
        go_wp2
        go_ret
        exact ⟨k, rfl, by rw [HV.out]; simp, HE2.out⟩
      | false =>
        have hv := HS.out
        rw [hb, HD.out] at hv
        have HV := Lib.hid hv
        clear hv hb
        go_wp2
        exact ⟨⟨k + 1, by omega, by go_num, by rw [HV.out]; simp, HE2.out⟩, by simp [intOf]; omega⟩
    · obtain rfl : k = zs.length := by omega
      go_wp2
      go_ret
      exact ⟨-1, rfl, by rw [← HD.out, List.drop_length]; rfl, HE.out⟩
set_option maxHeartbeats 1000000 in
theorem contains2_walk {W : World} (hG : GOK G W) {b i q : Nat} {xs : List Nm} (h : HC W b i xs q) (hq : q < xs.length) {a : Option Addr} {cap : Nat} {zs : List Int} (hz : Thr W a zs) (h64 : ∀ v ∈ zs, I64 v) :
    Calls P 33 #[.slice a zs.length cap, .func (.func 34) #[] #[.pointer (some ⟨b, 0, none⟩), .pointer (some ⟨i, 0, none⟩)]] W fun e w' => e = .returned (.bool (outOf xs[q] zs)) ∧ Below W.heap.size W w' := by
  have HG := Lib.hid hG
  have HZ := Lib.hid hz
  have HH := Lib.hid h
  clear hG hz h
  go_enter Tryd.func33, Tryd.ntmps33
  go_wp2_with (go_at_call 50; refine (index2_walk (cap := cap) HG.out HH.out hq HZ.out h64).mono ?_; rintro e W2 ⟨r, rfl, hd, hb⟩; refine Hid.out ?_)
  have HB := Lib.hid hb
  have HD := Lib.hid hd
  clear hb hd
  refine Lib.hid ?_
  go_wp2
  go_ret
  exact ⟨by rw [← HD.out]; rfl, HB.out⟩
end Go.Proofs.YtmadebejnhinoaaDoor.V


set_option linter.unusedVariables false
set_option linter.unusedSimpArgs false
namespace Go.Proofs.YtmadebejnhinoaaDoor.V
open Go Go.Wk Go.RowKit

/-- a list of lists of words -/
structure Lists (W : World) (a : Option Addr) (ls : List (List Int)) : Prop where
  big : ls.length * 24 ≤ 140737488351232
  at_ : ∀ i, (h : i < ls.length) → ∃ b off p c, a = some ⟨b, off, none⟩ ∧ b < W.heap.size ∧ W.cell? ⟨b, off + i, none⟩ = some (.slice p ls[i].length c) ∧ Thr W p ls[i] ∧ ∀ v ∈ ls[i], I64 v
theorem Lists.below {W W' : World} {a : Option Addr} {ls : List (List Int)} (h : Lists W a ls) (hb : Below W.heap.size W W') : Lists W' a ls where
  big := h.big
  at_ i hi := by
    obtain ⟨b, off, p, c, e, hl, hc, ht, h6⟩ := h.at_ i hi
    exact ⟨b, off, p, c, e, Nat.lt_of_lt_of_le hl hb.size, (hb.cell (by simpa using hl)).trans hc, ht.below hb, h6⟩
/-- a store as a value -/
def StoreAt (W : World) (v : Value) (vs : List Int) (ls : List (List Int)) : Prop := ∃ a c b d, v = .agg #[.slice a vs.length c, .slice b ls.length d] ∧ Thr W a vs ∧ (∀ v ∈ vs, I64 v) ∧ Lists W b ls
/-- the memory of Has -/
structure HM (W w : World) (d : Bool) (s1 s2 u1 u2 : Value) : Prop where
  bel : Below W.heap.size W w
  sz : W.heap.size + 1 < w.heap.size
  rA : w.heap[W.heap.size]? = some (.cells #[.bool d, s1, s2] 24 (0, 0))
  rB : w.heap[W.heap.size + 1]? = some (.cells #[u1, u2] 36 (0, 0))
theorem hm_start (W : World) (d : Bool) (s1 s2 u1 u2 : Value) : HM W ((W.alloc (.cells #[.bool d, s1, s2] 24)).alloc (.cells #[u1, u2] 36)) d s1 s2 u1 u2 where
  bel := belA (allocB W _) (Nat.le_refl _) _
  sz := by simp
  rA := ((allocB _ _).block _ (allocL _ _)).trans (allocR _ _)
  rB := by have := allocR (W.alloc (.cells #[.bool d, s1, s2] 24)) (.cells #[u1, u2] 36); simpa using this
theorem HM.below {W w w' : World} {d : Bool} {s1 s2 u1 u2 : Value} (h : HM W w d s1 s2 u1 u2) (hb : Below w.heap.size w w') : HM W w' d s1 s2 u1 u2 where
  bel := h.bel.trans (hb.mono h.bel.size)
  sz := Nat.lt_of_lt_of_le h.sz hb.size
  rA := (hb.block _ (by have := h.sz; omega)).trans h.rA
  rB := (hb.block _ h.sz).trans h.rB
theorem HM.put {W w : World} {d : Bool} {s1 s2 u1 u2 : Value} (h : HM W w d s1 s2 u1 u2) (d' : Bool) (t1 t2 : Value) : HM W (((w.setCell ⟨W.heap.size, 0, none⟩ (.bool d')).setCell ⟨W.heap.size, 1, none⟩ t1).setCell ⟨W.heap.size, 2, none⟩ t2) d' t1 t2 u1 u2 where
  bel := ((h.bel.trans (set_bel' w _ (by omega))).trans (set_bel' _ _ (by omega))).trans (set_bel' _ _ (by omega))
  sz := by have := h.sz; simpa using this
  rA := (heap_set0' (heap_set0' (heap_set0' h.rA))).trans (by simp)
  rB := ((heap_setCell_other _ _ _ _ (by simp)).trans ((heap_setCell_other _ _ _ _ (by simp)).trans (heap_setCell_other w _ _ _ (by simp)))).trans h.rB
theorem HM.cells {W w : World} {d : Bool} {s1 s2 u1 u2 : Value} (h : HM W w d s1 s2 u1 u2) : w.cell? ⟨W.heap.size + 1, 0, none⟩ = some u1 ∧ w.cell? ⟨W.heap.size + 1, 1, none⟩ = some u2 := by
  constructor <;> simp [World.cell?, h.rB]
theorem hasVs_drop {xs : List Nm} {ns : List Int} {k : Nat} (h : k < xs.length) (h' : k < ns.length) : hasVs (xs.drop k) (ns.drop k) = (decide (In xs[k] ns[k]) && hasVs (xs.drop (k + 1)) (ns.drop (k + 1))) := by
  rw [List.drop_eq_getElem_cons h, List.drop_eq_getElem_cons h']; rfl
theorem hasAs_drop {xs : List Nm} {ls : List (List Int)} {k : Nat} (h : k < xs.length) (h' : k < ls.length) : hasAs (xs.drop k) (ls.drop k) = (!outOf xs[k] ls[k] && hasAs (xs.drop (k + 1)) (ls.drop (k + 1))) := by
  rw [List.drop_eq_getElem_cons h, List.drop_eq_getElem_cons h']
  show (_ && _) = _
  congr 1
  simp [outOf, List.all_eq_not_any_not]
set_option maxRecDepth 100000 in
set_option maxHeartbeats 4000000 in
theorem has_walk {W : World} (hG : GOK G W) {v v' : Value} {E : EnvP} (hE : EnvAt W v E) {ns : List Int} {ls : List (List Int)} (hS : StoreAt W v' ns ls) : Calls P 14 #[v, v'] W fun e w' => e = .returned (.bool (hasE E ns ls)) ∧ Below W.heap.size W w' := by
  have HE := Lib.hid hE
  have HG := Lib.hid hG
  obtain ⟨_, _, rfl, ⟨a, c, rfl, _⟩, ⟨b, d, rfl, _⟩⟩ := hE
  obtain ⟨a', c', b', d', rfl, t1, t2, t3⟩ := hS
  have hn1 := t1.big
  have hn2 := t3.big
  have T1 := Lib.hid t1
  have T2 := Lib.hid t2
  have T3 := Lib.hid t3
  clear hG t1 t2 t3
  have H0 := Lib.hid (hm_start W E.dead (.slice a E.vs.length c) (.slice b E.ars.length d) (.slice a' ns.length c') (.slice b' ls.length d'))
  go_enter Tryd.func14, Tryd.ntmps14
  go_upto_region 1 with fail
  generalize (W.alloc (.cells #[.bool E.dead, .slice a E.vs.length c, .slice b E.ars.length d] 24)).alloc (.cells #[.slice a' ns.length c', .slice b' ls.length d'] 36) = wE at *
  obtain ⟨c0, c1, c2, f0, f1, f2⟩ := cells3 H0.out.rA
  go_wp2_with (go_at_call 13; refine (norm_walk (gok_b HG.out (Nat.le_refl _) H0.out.bel) (HE.out.below H0.out.bel)).mono ?_; rintro e W2 ⟨_, rfl, hb, henv⟩; refine Hid.out ?_)
  have hm2 := H0.out.below hb
  have hsz := H0.out.sz
  obtain ⟨s1, s2, rfl, ⟨⟨y1, n1, rfl, hy1⟩, k1⟩, ⟨⟨y2, n2, rfl, hy2⟩, k2⟩⟩ := henv
  have HL := Lib.hid (show hasE E ns ls = hasM (normE E) ns ls from rfl)
  have henv := EnvF.mono (B' := W.heap.size + 2) (show EnvF _ W2 (evx (normE E).dead (.slice y1 (normE E).vs.length n1) (.slice y2 (normE E).ars.length n2)) (normE E) from ⟨_, _, rfl, ⟨⟨y1, n1, rfl, hy1⟩, k1⟩, ⟨⟨y2, n2, rfl, hy2⟩, k2⟩⟩) (by omega)
  clear hb hy1 hy2 k1 k2 c0 c1 c2 f0 f1 f2 H0 HE
  generalize normE E = E' at *
  obtain ⟨dd, vs, ars⟩ := E'
  simp only at *
  obtain ⟨c0, c1, c2, f0, f1, f2⟩ := cells3 hm2.rA
  have henv2 := ((henv.set (b := W.heap.size) (i := 0) (u := .bool dd) (by omega)).set (b := W.heap.size) (i := 1) (u := .slice y1 vs.length n1) (by omega)).set (b := W.heap.size) (i := 2) (u := .slice y2 ars.length n2) (by omega)
  have hr := env_rows henv2.at_
  have HM2 := Lib.hid (hm2.put dd (.slice y1 vs.length n1) (.slice y2 ars.length n2))
  have HR1 := Lib.hid hr.1
  have HR2 := Lib.hid hr.2
  clear henv henv2 hr hm2
  refine Lib.hid ?_
  go_upto_region 2 with fail
  generalize ((W2.setCell ⟨W.heap.size, 0, none⟩ (.bool dd)).setCell ⟨W.heap.size, 1, none⟩ (.slice y1 vs.length n1)).setCell ⟨W.heap.size, 2, none⟩ (.slice y2 ars.length n2) = wN at *
  clear c0 c1 c2 f0 f1 f2
  obtain ⟨c0, c1, c2, _, _, _⟩ := cells3 HM2.out.rA
  obtain ⟨e0, e1⟩ := HM2.out.cells
  have hv1 := HR1.out.big
  have hv2 := HR2.out.big
  have HX := Lib.hid (show hasM ⟨dd, vs, ars⟩ ns ls = (!(dd || !decide (vs.length = ns.length) || !decide (ars.length = ls.length)) && (hasVs vs ns && hasAs ars ls)) from rfl)
  cases dd with
  | true =>
    go_wp2
    go_ret
    exact ⟨by rw [HL.out, HX.out]; simp, HM2.out.bel⟩
  | false =>
    by_cases h1 : vs.length = ns.length
    · by_cases h2 : ars.length = ls.length
      · have HX2 := Lib.hid (HX.out.trans (by simp [h1, h2]) : hasM ⟨false, vs, ars⟩ ns ls = (hasVs vs ns && hasAs ars ls))
        have HB0 := Lib.hid (Below.refl wN.heap.size wN)
        go_wp2
        clear c0 c1 c2 e0 e1
        go_loopw [34] (fun i wx => ∃ k : Nat, k ≤ ns.length ∧ i = .int .i64 k ∧ hasVs (vs.drop k) (ns.drop k) = hasVs vs ns ∧ Below wN.heap.size wN wx) (fun i _ => ns.length - (intOf i).toNat)
        case atStart => exact ⟨0, Nat.zero_le _, rfl, by simp, HB0.out⟩
        case round =>
          obtain ⟨k, hk, rfl, hd, hLL⟩ := hrel
          have HEe := Lib.hid hLL
          have HD := Lib.hid hd
          clear hLL hd
          have HM3 := Lib.hid (HM2.out.below HEe.out)
          obtain ⟨c0, c1, c2, _, _, _⟩ := cells3 HM3.out.rA
          obtain ⟨e0, e1⟩ := HM3.out.cells
          by_cases hlt : k < ns.length
          · have hlt' : k < vs.length := by omega
            obtain ⟨b2, o2, rfl, hbl2, g0⟩ := (T1.out.below HM3.out.bel).at_ k hlt
            obtain ⟨b3, o3, rfl, hbl3, i0, i1, i2, i3, i4⟩ := (HR1.out.below HEe.out).at_ k hlt'
            go_wp2_with (go_at_call 18; refine (k_has (gok_b HG.out (Nat.le_refl _) HM3.out.bel) (HR1.out.raw _ (List.getElem_mem hlt')) (T2.out _ (List.getElem_mem hlt))).mono ?_; rintro e W4 ⟨rfl, hb⟩; refine Hid.out ?_)
            have HE2 := Lib.hid (HEe.out.trans (hb.mono HEe.out.size))
            have HS := Lib.hid (hasVs_drop hlt' hlt)
            clear hb HEe c0 c1 c2 e0 e1 g0 i0 i1 i2 i3 i4
            refine Lib.hid ?_
            cases hb : decide (In vs[k] ns[k]) with
            | true =>
              have hv := HS.out
              rw [hb, HD.out] at hv
              have HV := Lib.hid hv
              clear hv hb
              go_wp2
              exact ⟨⟨k + 1, by omega, by go_num, by rw [HV.out]; simp, HE2.out⟩, by simp [intOf]; omega⟩
            | false =>
              have hv := HS.out
              rw [hb, HD.out] at hv
              have HV := Lib.hid hv
              clear hv hb
              go_wp2
              go_ret
              exact ⟨by rw [HL.out, HX2.out, HV.out]; simp, (HM2.out.below HE2.out).bel⟩
          · obtain rfl : k = ns.length := by omega
            have hq : hasVs vs ns = true := by
              have := HD.out
              rw [List.drop_length, ← h1, List.drop_length] at this
              exact this.symm
            have HX3 := Lib.hid (HX2.out.trans (by rw [hq]; rfl) : hasM ⟨false, vs, ars⟩ ns ls = hasAs ars ls)
            clear hq HD HX2 HX
            have HE0 := Lib.hid (Below.refl wr.heap.size wr)
            go_wp2
            have HR3 := Lib.hid (HR2.out.below HEe.out)
            clear c0 c1 c2 e0 e1 HB0 HM2 HEe HR2
            rename World => wM
            go_loopw [51] (fun i wx => ∃ k : Nat, k ≤ ls.length ∧ i = .int .i64 k ∧ hasAs (ars.drop k) (ls.drop k) = hasAs ars ls ∧ Below wM.heap.size wM wx) (fun i _ => ls.length - (intOf i).toNat)
            case atStart => exact ⟨0, Nat.zero_le _, rfl, by simp, HE0.out⟩
            case round =>
              obtain ⟨k, hk2, rfl, hd, hLL⟩ := hrel
              have HEe := Lib.hid hLL
              have HD := Lib.hid hd
              clear hLL hd
              have HM4 := Lib.hid (HM3.out.below HEe.out)
              by_cases hlt : k < ls.length
              · have hlt' : k < ars.length := by omega
                obtain ⟨b2, o2, p2, cc, rfl, hbl2, g0, ht, h6⟩ := (T3.out.below HM4.out.bel).at_ k hlt
                have HT := Lib.hid (ht.below (allocB wr (.cells #[.int .i64 k] 3)))
                have H6 := Lib.hid h6
                have HBA := Lib.hid (HEe.out.trans ((allocB wr (.cells #[.int .i64 k] 3)).mono HEe.out.size))
                have HMA := Lib.hid (HM4.out.below (allocB wr (.cells #[.int .i64 k] 3)))
                have HCC := Lib.hid (⟨⟨_, _, _, _, HMA.out.rA, HR3.out.below HBA.out⟩, allocR wr (.cells #[.int .i64 k] 3)⟩ : HC (wr.alloc (.cells #[.int .i64 k] 3)) W.heap.size wr.heap.size ars k)
                clear ht h6
                go_wp2_with (go_at_call 33; refine (contains2_walk (cap := cc) (gok_b HG.out (Nat.le_refl _) HMA.out.bel) HCC.out hlt' HT.out H6.out).mono ?_; rintro e W4 ⟨rfl, hb⟩; refine Hid.out ?_)
                have HE2 := Lib.hid (HBA.out.trans (hb.mono HBA.out.size))
                have HS := Lib.hid (hasAs_drop hlt' hlt)
                clear hb HEe HT H6 HBA HMA HCC HM4 g0
                refine Lib.hid ?_
                cases hb : outOf ars[k] ls[k] with
                | false =>
                  have hv := HS.out
                  rw [hb, HD.out] at hv
                  have HV := Lib.hid hv
                  clear hv hb
                  go_wp2
                  exact ⟨⟨k + 1, by omega, by go_num, by rw [HV.out]; simp, HE2.out⟩, by simp [intOf]; omega⟩
                | true =>
                  have hv := HS.out
                  rw [hb, HD.out] at hv
                  have HV := Lib.hid hv
                  clear hv hb
                  go_wp2
                  go_ret
                  exact ⟨by rw [HL.out, HX3.out, HV.out]; simp, (HM3.out.below HE2.out).bel⟩
              · obtain rfl : k = ls.length := by omega
                have hq : hasAs ars ls = true := by
                  have := HD.out
                  rw [List.drop_length, ← h2, List.drop_length] at this
                  exact this.symm
                have HQ := Lib.hid hq
                clear hq
                go_wp2
                go_ret
                exact ⟨by rw [HL.out, HX3.out, HQ.out]; rfl, HM4.out.bel⟩
      · go_wp2
        go_ret
        exact ⟨by rw [HL.out, HX.out]; simp [h2]; try omega, HM2.out.bel⟩
    · go_wp2
      go_ret
      exact ⟨by rw [HL.out, HX.out]; simp [h1]; try omega, HM2.out.bel⟩
end Go.Proofs.YtmadebejnhinoaaDoor.V


set_option linter.unusedVariables false
set_option linter.unusedSimpArgs false
namespace Go.Proofs.YtmadebejnhinoaaDoor.V
open Go Go.Wk Go.RowKit

theorem envP_eq (E F : EnvP) : decide (E = F) = (decide (E.dead = F.dead) && (eqL E.vs F.vs && eqL E.ars F.ars)) := by
  obtain ⟨d, v, a⟩ := E
  obtain ⟨d', v', a'⟩ := F
  unfold eqL
  rw [Bool.eq_iff_iff]
  simp
set_option maxRecDepth 100000 in
set_option maxHeartbeats 4000000 in
theorem same_walk {W : World} (hG : GOK G W) {v v' : Value} {E F : EnvP} (hE : EnvAt W v E) (hF : EnvAt W v' F) : Calls P 8 #[v, v'] W fun e w' => e = .returned (.bool (sameE E F)) ∧ Below W.heap.size W w' := by
  have HE := Lib.hid hE
  have HF := Lib.hid hF
  have HG := Lib.hid hG
  obtain ⟨_, _, rfl, ⟨a, c, rfl, _⟩, ⟨b, d, rfl, _⟩⟩ := hE
  obtain ⟨_, _, rfl, ⟨a', c', rfl, _⟩, ⟨b', d', rfl, _⟩⟩ := hF
  clear hG
  have H0 := Lib.hid (PB.start2 W E.dead F.dead (.slice a E.vs.length c) (.slice b E.ars.length d) (.slice a' F.vs.length c') (.slice b' F.ars.length d'))
  go_enter Tryd.func8, Tryd.ntmps8
  go_upto_region 1 with fail
  generalize (W.alloc (.cells #[.bool E.dead, .slice a E.vs.length c, .slice b E.ars.length d] 24)).alloc (.cells #[.bool F.dead, .slice a' F.vs.length c', .slice b' F.ars.length d'] 24) = wE at *
  go_cut [4] from 5 to 8 (fun _ wx => Both W (normE E) (normE F) wx)
  case first =>
    obtain ⟨c0, c1, c2, f0, f1, f2⟩ := cells3 H0.out.rA
    obtain ⟨e0, e1, e2, g0, g1, g2⟩ := cells3 H0.out.rB
    have hP0 := H0.out.drew
    go_region_with (
      go_at_call 13
      have hP := ‹PB W _ _ _ _ _ _ _›
      first
        | (with_reducible refine (norm_walk (gok_b HG.out (Nat.le_refl _) hP.bel) (HE.out.below hP.bel)).mono ?_)
          rintro e w' ⟨_, rfl, hb, ⟨_, _, rfl, ⟨⟨a1, c1, rfl, r1⟩, k1⟩, ⟨⟨b1, d1, rfl, r2⟩, k2⟩⟩⟩
          have hP' := hP.below hb
          have hR1 : EnvF (W.heap.size + 2) w' (evx (normE E).dead (.slice a1 (normE E).vs.length c1) (.slice b1 (normE E).ars.length d1)) (normE E) := EnvF.mono ⟨_, _, rfl, ⟨⟨a1, c1, rfl, r1⟩, k1⟩, ⟨⟨b1, d1, rfl, r2⟩, k2⟩⟩ hP.sz
          try have hR2' := (show EnvF _ _ _ (normE F) from hR2).below hb
        | (with_reducible refine (norm_walk (gok_b HG.out (Nat.le_refl _) hP.bel) (HF.out.below hP.bel)).mono ?_)
          rintro e w' ⟨_, rfl, hb, ⟨_, _, rfl, ⟨⟨a2, c2, rfl, r3⟩, k3⟩, ⟨⟨b2, d2, rfl, r4⟩, k4⟩⟩⟩
          have hP' := hP.below hb
          have hR2 : EnvF (W.heap.size + 2) w' (evx (normE F).dead (.slice a2 (normE F).vs.length c2) (.slice b2 (normE F).ars.length d2)) (normE F) := EnvF.mono ⟨_, _, rfl, ⟨⟨a2, c2, rfl, r3⟩, k3⟩, ⟨⟨b2, d2, rfl, r4⟩, k4⟩⟩ hP.sz
          try have hR1' := (show EnvF _ _ _ (normE E) from hR1).below hb
      clear hP hb
      obtain ⟨cA0, cA1, cA2, f0, f1, f2⟩ := cells3 hP'.rA
      obtain ⟨e0, e1, e2, g0, g1, g2⟩ := cells3 hP'.rB)
    all_goals (
      have hP := ‹PB W _ _ _ _ _ _ _›
      have h1 := ‹EnvF (W.heap.size + 2) _ _ (normE E)›
      have h2 := ‹EnvF (W.heap.size + 2) _ _ (normE F)›
      have hJ := Lib.hid (both_put hP h1 h2)
      clear hP h1 h2
      go_wp2
      go_meet
      case rel => exact hJ.out)
  case rest =>
    obtain ⟨a1, c1, b1, d1, a2, c2, b2, d2, hP, h1, h2⟩ := hcut
    have HL := Lib.hid (show sameE E F = decide (normE E = normE F) from rfl)
    clear H0 HE HF
    generalize normE E = E' at *
    generalize normE F = F' at *
    have hr1 := env_rows h1.at_
    have hr2 := env_rows h2.at_
    have HP := Lib.hid hP
    have HR1 := Lib.hid hr1
    have HR2 := Lib.hid hr2
    obtain ⟨cA0, cA1, cA2, _, _, _⟩ := cells3 hP.rA
    obtain ⟨cB0, cB1, cB2, _, _, _⟩ := cells3 hP.rB
    clear hP h1 h2 hr1 hr2
    have HM := Lib.hid (envP_eq E' F')
    obtain ⟨de, vs, ars⟩ := E'
    obtain ⟨df, vs', ars'⟩ := F'
    simp only at *
    by_cases hd : de = df
    · subst hd
      go_wp2_with (go_at_call 22; refine (equal_walk HR1.out.1 HR2.out.1).mono ?_; rintro e W3 ⟨rfl, hb⟩; refine Hid.out ?_)
      have HP3 := Lib.hid (HP.out.below hb)
      have HR3 := Lib.hid (HR1.out.2.below hb)
      have HR4 := Lib.hid (HR2.out.2.below hb)
      clear hb HP HR1 HR2 cA0 cA1 cA2 cB0 cB1 cB2
      obtain ⟨cA0, cA1, cA2, _, _, _⟩ := cells3 HP3.out.rA
      obtain ⟨cB0, cB1, cB2, _, _, _⟩ := cells3 HP3.out.rB
      refine Lib.hid ?_
      cases hq : eqL vs vs' with
      | false =>
        go_wp2
        go_ret
        exact ⟨by rw [HL.out, HM.out, hq]; simp, HP3.out.bel⟩
      | true =>
        have HQ := Lib.hid hq
        clear hq
        go_wp2_with (go_at_call 22; refine (equal_walk HR3.out HR4.out).mono ?_; rintro e W4 ⟨rfl, hb⟩; refine Hid.out ?_)
        have HB := Lib.hid (HP3.out.below hb).bel
        clear hb
        refine Lib.hid ?_
        go_wp2
        go_ret
        exact ⟨by rw [HL.out, HM.out, HQ.out]; simp, HB.out⟩
    · have hdd : (de == df) = false := by simpa using hd
      go_wp2
      go_ret
      exact ⟨by rw [HL.out, HM.out]; simp [hd], HP.out.bel⟩
end Go.Proofs.YtmadebejnhinoaaDoor.V

