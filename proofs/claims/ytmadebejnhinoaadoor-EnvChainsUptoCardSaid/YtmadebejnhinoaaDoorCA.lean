/- Chapter 15: contracts of the number layer, and lists of Nums in memory; Chapter 15: each over num.Norm; Chapter 15: the dead store, the search for a Num that is none, the normal form; Chapter 15: lively and Norm; Chapter 15: Norm; Chapter 15: unlike, EqualFunc over num.Leq, Equal; Chapter 15: Leq; Chapter 15: the closures of both. Conditions: none. -/
import Derived.Test.YtmadebejnhinoaaDoorPA
import Derived.Test.YtmadebejnhinoaaDoorVB
import Derived.WalkKit
import Derived.Lib.Hide
import Derived.OwnWalk
import Derived.Below
import Derived.WideShapes
import Derived.Deep.RegionHeld3
import Derived.Deep.CutRange
import Derived.Deep.RegionWith

set_option linter.unusedVariables false
set_option linter.unusedSimpArgs false
namespace Go.Proofs.YtmadebejnhinoaaDoor.V
open Go Go.Wk Go.RowKit

theorem allocB (w : World) (o : Obj) : Below w.heap.size w (w.alloc o) := (Below.refl _ _).alloc (Nat.le_refl _) o
theorem allocR (w : World) (o : Obj) : (w.alloc o).heap[w.heap.size]? = some o := heap_alloc_new w o
theorem allocL (w : World) (o : Obj) : w.heap.size < (w.alloc o).heap.size := by simp
theorem belA {n : Nat} {w w' : World} (h : Below n w w') (hn : n ≤ w.heap.size) (o : Obj) : Below n w (w'.alloc o) := h.alloc (Nat.le_trans hn h.size) o
theorem grown_keep {w w' : World} {row : Option Nat} {n : Nat} (h : w.grownBy w' row) (hn : n ≤ w.heap.size) (hr : ∀ k, row = some k → n ≤ k) : Below n w w' :=
  ⟨h.os, h.tape, h.output, h.size, fun k hk => h.block k (by omega) (fun e => by have := hr k e.symm; omega)⟩
theorem own_below {w w' : World} {base : Nat} {e : TypeId} {size : Nat} {v : Value} {n : Nat} {xs : List Value} (h : w.ownsRow base e size v n xs) (hb : Below w.heap.size w w') : w'.ownsRow base e size v n xs :=
  ⟨h.1, by
    rcases h.2 with h' | ⟨g, cap, cur, hv, hb', hg, rest⟩
    · exact .inl h'
    · exact .inr ⟨g, cap, cur, hv, hb', (hb.block g (Array.getElem?_eq_some_iff.1 hg).1).trans hg, rest⟩⟩
theorem info_parts {t : TypeId} {z : Value} {s b : Nat} (h : (P.info? t).map (fun i => (i.zero, i.size, i.bytes)) = some (some z, s, b)) : ∃ i, P.info? t = some i ∧ i.zero = some z ∧ i.size = s ∧ i.bytes = b := by
  cases hi : P.info? t with
  | none => rw [hi] at h; simp at h
  | some i => rw [hi] at h; simp only [Option.map_some, Option.some.injEq, Prod.mk.injEq] at h; exact ⟨i, rfl, h.1, h.2.1, h.2.2⟩
abbrev nvx (x : Nm) : Value := .agg #[.bool x.1, .int .i64 x.2.1, .int .i64 x.2.2.1, .int .u64 x.2.2.2.1, .int .u64 x.2.2.2.2]
abbrev ncs (x : Nm) : Array Value := #[.bool x.1, .int .i64 x.2.1, .int .i64 x.2.2.1, .int .u64 x.2.2.2.1, .int .u64 x.2.2.2.2]
def ncl (x : Nm) : List Value := [.bool x.1, .int .i64 x.2.1, .int .i64 x.2.2.1, .int .u64 x.2.2.2.1, .int .u64 x.2.2.2.2]
theorem info46 : (P.info? 46).map (fun i => (i.zero, i.size, i.bytes)) = some (some (nvx (false, 0, 0, 0, 0)), 5, 40) := by kernel_rfl
theorem cells5 {w : World} {b : Nat} {x : Nm} (h : w.heap[b]? = some (.cells (ncs x) 46 (0, 0))) : w.cell? ⟨b, 0, none⟩ = some (.bool x.1) ∧ w.cell? ⟨b, 1, none⟩ = some (.int .i64 x.2.1) ∧ w.cell? ⟨b, 2, none⟩ = some (.int .i64 x.2.2.1) ∧ w.cell? ⟨b, 3, none⟩ = some (.int .u64 x.2.2.2.1) ∧ w.cell? ⟨b, 4, none⟩ = some (.int .u64 x.2.2.2.2) := by
  refine ⟨?_, ?_, ?_, ?_, ?_⟩ <;> simp [World.cell?, h]
section
variable {W : World} (hG : GOK G W)
include hG
theorem k_norm {x : Nm} (h : Raw x) : Calls P 32 #[nvx x] W fun e w' => e = .returned (nvx (normS x)) ∧ Below W.heap.size W w' := by
  obtain ⟨a0, a1, a2, a3, a4⟩ := x
  have := TabOK_calls C num_Meet.t (F := num_Norm.F) rfl Tryd.func32 (by kernel_rfl) (vs := [nvx (a0, a1, a2, a3, a4)]) (v := nvx (num_Norm a0 a1 a2 a3 a4)) hG rfl
  rw [num_Norm_s h] at this
  exact this
theorem k_const {a : Int} (h : I64 a) : Calls P 16 #[.int .i64 a] W fun e w' => e = .returned (nvx (constS a)) ∧ Below W.heap.size W w' := by
  have := TabOK_calls C num_Meet.t (F := num_Const.F) rfl Tryd.func16 (by kernel_rfl) (vs := [.int .i64 a]) (v := nvx (num_Const a)) hG rfl
  rw [num_Const_s h] at this
  exact this
theorem k_range {a b : Int} (h : I64 a) (h' : I64 b) : Calls P 17 #[.int .i64 a, .int .i64 b] W fun e w' => e = .returned (nvx (rangeS a b)) ∧ Below W.heap.size W w' := by
  have := TabOK_calls C num_Meet.t (F := num_Range.F) rfl Tryd.func17 (by kernel_rfl) (vs := [.int .i64 a, .int .i64 b]) (v := nvx (num_Range a b)) hG rfl
  rw [num_Range_s h h'] at this
  exact this
theorem k_has {x : Nm} (h : Raw x) {v : Int} (hv : I64 v) : Calls P 18 #[nvx x, .int .i64 v] W fun e w' => e = .returned (.bool (decide (In x v))) ∧ Below W.heap.size W w' := by
  obtain ⟨a0, a1, a2, a3, a4⟩ := x
  have := TabOK_calls C num_Meet.t (F := num_Has.F) rfl Tryd.func18 (by kernel_rfl) (vs := [nvx (a0, a1, a2, a3, a4), .int .i64 v]) (v := .bool (num_Has a0 a1 a2 a3 a4 v)) hG rfl
  rw [num_Has_s h hv] at this
  exact this
theorem k_leq {x y : Nm} (h : Raw x) (h' : Raw y) : Calls P 21 #[nvx x, nvx y] W fun e w' => e = .returned (.bool (leqS x y)) ∧ Below W.heap.size W w' := by
  obtain ⟨a0, a1, a2, a3, a4⟩ := x
  obtain ⟨b0, b1, b2, b3, b4⟩ := y
  have := TabOK_calls C num_Meet.t (F := num_Leq.F) rfl Tryd.func21 (by kernel_rfl) (vs := [nvx (a0, a1, a2, a3, a4), nvx (b0, b1, b2, b3, b4)]) (v := .bool (num_Leq a0 a1 a2 a3 a4 b0 b1 b2 b3 b4)) hG (by
    show some (num_Leq.ok a0 a1 a2 a3 a4 b0 b1 b2 b3 b4, _) = _
    rw [num_Leq_ok h h'])
  rw [num_Leq_s h h'] at this
  exact this
theorem k_join {x y : Nm} (h : Raw x) (h' : Raw y) : Calls P 27 #[nvx x, nvx y] W fun e w' => e = .returned (nvx (joinS x y)) ∧ Below W.heap.size W w' := by
  obtain ⟨a0, a1, a2, a3, a4⟩ := x
  obtain ⟨b0, b1, b2, b3, b4⟩ := y
  have := TabOK_calls C num_Meet.t (F := num_Join.F) rfl Tryd.func27 (by kernel_rfl) (vs := [nvx (a0, a1, a2, a3, a4), nvx (b0, b1, b2, b3, b4)]) (v := nvx (num_Join a0 a1 a2 a3 a4 b0 b1 b2 b3 b4)) hG (by
    show some (num_Join.ok a0 a1 a2 a3 a4 b0 b1 b2 b3 b4, _) = _
    rw [num_Join_ok h h'])
  rw [num_Join_s h h'] at this
  exact this
theorem k_meet {x y : Nm} (h : Raw x) (h' : Raw y) : Calls P 25 #[nvx x, nvx y] W fun e w' => e = .returned (nvx (meetS x y)) ∧ Below W.heap.size W w' := by
  obtain ⟨a0, a1, a2, a3, a4⟩ := x
  obtain ⟨b0, b1, b2, b3, b4⟩ := y
  have := TabOK_calls C num_Meet.t (F := num_Meet.F) rfl Tryd.func25 (by kernel_rfl) (vs := [nvx (a0, a1, a2, a3, a4), nvx (b0, b1, b2, b3, b4)]) (v := nvx (num_Meet a0 a1 a2 a3 a4 b0 b1 b2 b3 b4)) hG (by
    show some (num_Meet.ok a0 a1 a2 a3 a4 b0 b1 b2 b3 b4, _) = _
    rw [num_Meet_ok h h'])
  rw [num_Meet_s h h'] at this
  exact this
theorem k_wid {a : Option Addr} {cap : Nat} {zs : List Int} (hz : Thr W a zs) {x y : Nm} (h : Raw x) (h' : Raw y) : Calls P 29 #[nvx x, nvx y, .slice a zs.length cap] W fun e w' => e = .returned (nvx (widS zs x y)) ∧ Below W.heap.size W w' := nwid_walk hG hz h h'
end
/-- a slice of Nums -/
structure Row (W : World) (a : Option Addr) (xs : List Nm) : Prop where
  big : xs.length * 40 ≤ 140737488351232
  raw : ∀ x ∈ xs, Raw x
  at_ : ∀ i, (h : i < xs.length) → ∃ b off, a = some ⟨b, off, none⟩ ∧ b < W.heap.size ∧ W.cell? ⟨b, off + i * 5, none⟩ = some (.bool xs[i].1) ∧ W.cell? ⟨b, off + i * 5 + 1, none⟩ = some (.int .i64 xs[i].2.1) ∧ W.cell? ⟨b, off + i * 5 + 2, none⟩ = some (.int .i64 xs[i].2.2.1) ∧ W.cell? ⟨b, off + i * 5 + 3, none⟩ = some (.int .u64 xs[i].2.2.2.1) ∧ W.cell? ⟨b, off + i * 5 + 4, none⟩ = some (.int .u64 xs[i].2.2.2.2)
theorem Row.below {W W' : World} {a : Option Addr} {xs : List Nm} (h : Row W a xs) (hb : Below W.heap.size W W') : Row W' a xs where
  big := h.big
  raw := h.raw
  at_ i hi := by
    obtain ⟨b, off, e, hl, c0, c1, c2, c3, c4⟩ := h.at_ i hi
    have k : ∀ o, W'.cell? ⟨b, o, none⟩ = W.cell? ⟨b, o, none⟩ := fun o => hb.cell (by simpa using hl)
    exact ⟨b, off, e, Nat.lt_of_lt_of_le hl hb.size, (k _).trans c0, (k _).trans c1, (k _).trans c2, (k _).trans c3, (k _).trans c4⟩
/-- the cells of Nums, one behind the other -/
def nlist (xs : List Nm) : List Value := xs.flatMap ncl
theorem nlist_len : ∀ xs : List Nm, (nlist xs).length = xs.length * 5
  | [] => rfl
  | x :: xs => by
    have := nlist_len xs
    simp only [nlist, List.flatMap_cons, List.length_append] at this ⊢
    simp [ncl, this]; omega
theorem nlist_snoc (xs : List Nm) (x : Nm) : nlist xs ++ ncl x = nlist (xs ++ [x]) := by simp [nlist]
theorem nlist_at : ∀ (xs : List Nm) (i j : Nat) (h : i < xs.length), j < 5 → (nlist xs)[i * 5 + j]? = (ncl xs[i])[j]?
  | x :: xs, 0, j, _, hj => by
    simp only [nlist, List.flatMap_cons]
    rw [List.getElem?_append_left (by simp [ncl]; omega)]
    simp
  | x :: xs, i + 1, j, h, hj => by
    have ih := nlist_at xs i j (by simpa using h) hj
    simp only [nlist, List.flatMap_cons] at ih ⊢
    rw [List.getElem?_append_right (by simp [ncl]; omega)]
    rw [show (i + 1) * 5 + j - (ncl x).length = i * 5 + j by simp [ncl]; omega, ih]
    simp
theorem row_of_own {w : World} {base : Nat} {v : Value} {xs : List Nm} (h : w.ownsRow base 46 5 v xs.length (nlist xs)) (hb : xs.length * 40 ≤ 140737488351232) (hr : ∀ x ∈ xs, Raw x) : ∃ (a : Option Addr) (c : {n : Nat // xs.length ≤ n}), v = .slice a xs.length c ∧ Row w a xs := by
  rcases h.2 with ⟨rfl, h0⟩ | ⟨g, cap, cur, rfl, hg, hh, hle, hm, hc, ht⟩
  · have hx := h0
    rw [List.length_eq_zero_iff] at hx
    subst hx
    exact ⟨none, ⟨0, by simp⟩, rfl, hb, hr, fun i hi => by simp at hi⟩
  · refine ⟨_, ⟨_, hle⟩, rfl, hb, hr, fun i hi => ⟨g, 0, rfl, (Array.getElem?_eq_some_iff.1 hh).1, ?_⟩⟩
    have key : ∀ j, j < 5 → w.cell? ⟨g, 0 + i * 5 + j, none⟩ = (ncl xs[i])[j]? := by
      intro j hj
      have e : cur.toList[i * 5 + j]? = (nlist xs)[i * 5 + j]? := by rw [← ht, List.getElem?_take_of_lt (by omega)]
      rw [nlist_at xs i j hi hj] at e
      rw [Nat.zero_add]
      simp only [World.cell?, hh]
      simpa using e
    exact ⟨key 0 (by omega), key 1 (by omega), key 2 (by omega), key 3 (by omega), key 4 (by omega)⟩
def SlA (W : World) (v : Value) (xs : List Nm) : Prop := ∃ (a : Option Addr) (c : {n : Nat // xs.length ≤ n}), v = .slice a xs.length c ∧ Row W a xs
theorem SlA.below {W W' : World} {v : Value} {xs : List Nm} (h : SlA W v xs) (hb : Below W.heap.size W W') : SlA W' v xs := by
  obtain ⟨a, c, e, hr⟩ := h
  exact ⟨a, c, e, hr.below hb⟩
/-- an abstract store as a value -/
def EnvAt (W : World) (v : Value) (E : EnvP) : Prop := ∃ sv sa, v = .agg #[.bool E.dead, sv, sa] ∧ SlA W sv E.vs ∧ SlA W sa E.ars
theorem EnvAt.below {W W' : World} {v : Value} {E : EnvP} (h : EnvAt W v E) (hb : Below W.heap.size W W') : EnvAt W' v E := by
  obtain ⟨sv, sa, e, h1, h2⟩ := h
  exact ⟨sv, sa, e, h1.below hb, h2.below hb⟩
/-- lists at blocks from B on -/
def SlF (B : Nat) (W : World) (v : Value) (xs : List Nm) : Prop := SlA W v xs ∧ ∀ b, v.ownBlock = some b → B ≤ b
theorem SlF.below {B : Nat} {W W' : World} {v : Value} {xs : List Nm} (h : SlF B W v xs) (hb : Below W.heap.size W W') : SlF B W' v xs := ⟨h.1.below hb, h.2⟩
theorem SlF.mono {B B' : Nat} {W : World} {v : Value} {xs : List Nm} (h : SlF B W v xs) (hB : B' ≤ B) : SlF B' W v xs := ⟨h.1, fun b hb => Nat.le_trans hB (h.2 b hb)⟩
def EnvF (B : Nat) (W : World) (v : Value) (E : EnvP) : Prop := ∃ sv sa, v = .agg #[.bool E.dead, sv, sa] ∧ SlF B W sv E.vs ∧ SlF B W sa E.ars
theorem EnvF.at_ {B : Nat} {W : World} {v : Value} {E : EnvP} (h : EnvF B W v E) : EnvAt W v E := by
  obtain ⟨sv, sa, e, h1, h2⟩ := h
  exact ⟨sv, sa, e, h1.1, h2.1⟩
theorem EnvF.below {B : Nat} {W W' : World} {v : Value} {E : EnvP} (h : EnvF B W v E) (hb : Below W.heap.size W W') : EnvF B W' v E := by
  obtain ⟨sv, sa, e, h1, h2⟩ := h
  exact ⟨sv, sa, e, h1.below hb, h2.below hb⟩
theorem EnvF.mono {B B' : Nat} {W : World} {v : Value} {E : EnvP} (h : EnvF B W v E) (hB : B' ≤ B) : EnvF B' W v E := by
  obtain ⟨sv, sa, e, h1, h2⟩ := h
  exact ⟨sv, sa, e, h1.mono hB, h2.mono hB⟩
/-- a store below the lists' blocks -/
theorem SlF.set {B : Nat} {w : World} {v u : Value} {b i : Nat} {xs : List Nm} (h : SlF B w v xs) (hb : b < B) : SlF B (w.setCell ⟨b, i, none⟩ u) v xs := by
  obtain ⟨⟨a, c, rfl, hr⟩, hf⟩ := h
  refine ⟨⟨a, c, rfl, hr.big, hr.raw, fun i' hi => ?_⟩, hf⟩
  obtain ⟨b', off, rfl, hl, c0, c1, c2, c3, c4⟩ := hr.at_ i' hi
  have hne : b' ≠ b := by have := hf b' rfl; omega
  have k : ∀ o, (w.setCell ⟨b, i, none⟩ u).cell? ⟨b', o, none⟩ = w.cell? ⟨b', o, none⟩ := by
    intro o
    have e : (w.setCell ⟨b, i, none⟩ u).heap[b']? = w.heap[b']? := heap_setCell_other w _ _ _ (by simpa using hne)
    simp only [World.cell?, e]
  exact ⟨b', off, rfl, by simpa using hl, (k _).trans c0, (k _).trans c1, (k _).trans c2, (k _).trans c3, (k _).trans c4⟩
theorem EnvF.set {B : Nat} {w : World} {v u : Value} {b i : Nat} {E : EnvP} (h : EnvF B w v E) (hb : b < B) : EnvF B (w.setCell ⟨b, i, none⟩ u) v E := by
  obtain ⟨sv, sa, e, h1, h2⟩ := h
  exact ⟨sv, sa, e, h1.set hb, h2.set hb⟩
theorem row_of_ownF {w : World} {base : Nat} {v : Value} {xs : List Nm} (h : w.ownsRow base 46 5 v xs.length (nlist xs)) (hb : xs.length * 40 ≤ 140737488351232) (hr : ∀ x ∈ xs, Raw x) : SlF base w v xs :=
  ⟨row_of_own h hb hr, fun b hv => (h.lt b hv).1⟩
theorem EnvAt.raw {W : World} {v : Value} {E : EnvP} (h : EnvAt W v E) : RawE E := by
  obtain ⟨sv, sa, e, ⟨_, _, _, h1⟩, _, _, _, h2⟩ := h
  exact ⟨h1.raw, h2.raw⟩
end Go.Proofs.YtmadebejnhinoaaDoor.V


set_option linter.unusedVariables false
set_option linter.unusedSimpArgs false
namespace Go.Proofs.YtmadebejnhinoaaDoor.V
open Go Go.Wk Go.RowKit

structure EL (w wx : World) (xs : List Nm) (f : Nm → Nm) (o : Value) (k : Nat) : Prop where
  bel : Below w.heap.size w wx
  own : wx.ownsRow w.heap.size 46 5 o k (nlist ((xs.take k).map f))
theorem take_map_succ {xs : List Nm} {f : Nm → Nm} {k : Nat} (h : k < xs.length) : nlist ((xs.take k).map f) ++ ncl (f xs[k]) = nlist ((xs.take (k + 1)).map f) := by
  rw [List.take_succ_eq_append_getElem h, List.map_append, nlist_snoc]; rfl
def Sliced (w : World) (xs : List Nm) (e : Ending) (w' : World) : Prop := ∃ v, e = .returned v ∧ Below w.heap.size w w' ∧ SlF w.heap.size w' v xs
set_option maxRecDepth 100000 in
set_option maxHeartbeats 4000000 in
theorem each_norm {W : World} (hG : GOK G W) {a : Option Addr} {cap : Nat} {xs : List Nm} (hr : Row W a xs) : Calls P 31 #[.slice a xs.length cap, .func (.func 32) #[] #[]] W (Sliced W (xs.map normS)) := by
  obtain ⟨i0, hi0, hz0, hz1, hz2⟩ := info_parts info46
  have hbig := hr.big
  have HG := Lib.hid hG
  have HR := Lib.hid hr
  clear hG hr
  have hml : xs.length ≤ maxLen := by have : maxLen = 9223372036854775807 := rfl; omega
  obtain ⟨w0, hmk, hown0, hg0⟩ := run_make_own (P := P) W W.heap.size 22 46 i0 _ 5 Tryd.underlying22 hi0 hz0 hz1 .i64 .i64 xs.length (by rw [hz2]; omega) hml (Nat.le_refl _)
  have HL := Lib.hid (⟨grown_keep hg0 (Nat.le_refl _) (fun k h => by simp at h), by simpa [nlist] using hown0⟩ : EL W w0 xs normS (.slice (some ⟨W.heap.size, 0, none⟩) 0 xs.length) 0)
  clear hown0 hg0
  go_enter Tryd.func31, Tryd.ntmps31
  go_wp2
  go_loopw [5, 13] (fun o i wx => ∃ k : Nat, k ≤ xs.length ∧ i = .int .i64 k ∧ EL W wx xs normS o k) (fun _ i _ => xs.length - (intOf i).toNat)
  case atStart => exact ⟨0, Nat.zero_le _, rfl, HL.out⟩
  case round =>
    obtain ⟨k, hk, rfl, hL⟩ := hrel
    have HE := Lib.hid hL
    clear hL HL
    by_cases hlt : k < xs.length
    · obtain ⟨b, off, rfl, hbl, c0, c1, c2, c3, c4⟩ := (HR.out.below HE.out.bel).at_ k hlt
      have HB := Lib.hid (belA HE.out.bel (Nat.le_refl _) (.cells (ncs xs[k]) 46))
      go_wp2_with (go_at_call 32; refine (k_norm (gok_b HG.out (Nat.le_refl _) HB.out) (HR.out.raw _ (List.getElem_mem hlt))).mono ?_; rintro e W2 ⟨rfl, hb⟩; refine Hid.out ?_)
      have HE2 := Lib.hid (⟨HB.out.trans (hb.mono HB.out.size), own_below (own_below HE.out.own (allocB _ _)) hb⟩ : EL W W2 xs normS _ k)
      clear hb HB HE c0 c1 c2 c3 c4
      refine Lib.hid ?_
      go_wp2_with (at_builtin; refine wpList_append_own _ rfl (.tmp 17) (.tmp 21) 22 rfl W.heap.size 46 i0 _ 5 40 Tryd.underlying22 hi0 hz0 hz1 hz2 rfl (by decide) _ k (nlist ((xs.take k).map normS)) rfl (HE2.out.own.alloc _) ⟨_, 0, none⟩ 1 1 (ncl (normS xs[k])) rfl rfl ?d2 ?d3 (by omega) (by omega) ?d6 ?_)
      case d2 =>
        intro j u hj
        match j, hj with
        | 0, hj => simp [ncl] at hj; subst hj; simp [Addr.add]
        | 1, hj => simp [ncl] at hj; subst hj; simp [Addr.add]
        | 2, hj => simp [ncl] at hj; subst hj; simp [Addr.add]
        | 3, hj => simp [ncl] at hj; subst hj; simp [Addr.add]
        | 4, hj => simp [ncl] at hj; subst hj; simp [Addr.add]
        | j + 5, hj => simp [ncl] at hj
      case d3 =>
        intro u hu
        simp only [ncl, List.mem_cons, List.mem_nil_iff, or_false] at hu
        rcases hu with rfl | rfl | rfl | rfl | rfl <;> rfl
      case d6 => have := HE2.out.bel.size; simp; omega
      intro v' w3 o2 g2 _
      have hb3 : Below W.heap.size W2 w3 := ((allocB W2 (.cells (ncs (normS xs[k])) 46)).mono HE2.out.bel.size).trans (grown_keep g2 (by have := HE2.out.bel.size; simp; omega) (fun g hg => (HE2.out.own.lt g hg).1))
      have HE3 := Lib.hid (⟨HE2.out.bel.trans hb3, by rw [← take_map_succ hlt, List.map_take]; exact o2⟩ : EL W w3 xs normS v' (k + 1))
      clear o2 g2 hb3 HE2
      go_wp2
      exact ⟨⟨k + 1, by omega, by go_num, HE3.out⟩, by simp [intOf]; omega⟩
    · obtain rfl : k = xs.length := by omega
      have h1 := HE.out.own
      rw [List.take_length] at h1
      have h2 := row_of_ownF (xs := xs.map normS) (by simpa using h1) (by simpa using hbig) (fun x hx => by obtain ⟨y, hy, rfl⟩ := List.mem_map.1 hx; exact norm_raw (HR.out.raw y hy))
      have H2 := Lib.hid h2
      clear h1 h2
      go_wp2
      go_ret
      exact ⟨_, rfl, HE.out.bel, H2.out⟩
end Go.Proofs.YtmadebejnhinoaaDoor.V


set_option linter.unusedVariables false
set_option linter.unusedSimpArgs false
namespace Go.Proofs.YtmadebejnhinoaaDoor.V
open Go Go.Wk Go.RowKit

abbrev evx (d : Bool) (sv sa : Value) : Value := .agg #[.bool d, sv, sa]
theorem row_nil (W : World) : Row W none [] := ⟨by simp, by simp, fun i hi => by simp at hi⟩
theorem sla_nil (W : World) : SlA W (.slice none 0 0) [] := ⟨none, ⟨0, by simp⟩, rfl, row_nil W⟩
theorem slf_nil (B : Nat) (W : World) : SlF B W (.slice none 0 0) [] := ⟨sla_nil W, fun b h => by simp [Value.ownBlock] at h⟩
theorem env_dead (B : Nat) (W : World) : EnvF B W (evx true (.slice none 0 0) (.slice none 0 0)) deadE := ⟨_, _, rfl, slf_nil B W, slf_nil B W⟩
set_option maxHeartbeats 1000000 in
theorem dead_walk (W : World) : Calls P 23 #[] W fun e w' => e = .returned (evx true (.slice none 0 0) (.slice none 0 0)) ∧ Below W.heap.size W w' := by
  go_enter Tryd.func23, Tryd.ntmps23
  go_wp2
  exact bodyPost_ret (v := evx true (.slice none 0 0) (.slice none 0 0)) (by simp [results, Tryd.results23, go_sem]) rfl ⟨rfl, by first | exact allocB _ _ | exact (allocB _ _).trans (by simpa using Below.refl _ _)⟩
theorem bot_walk (W : World) (x : Nm) : Calls P 48 #[nvx x] W fun e w' => e = .returned (.bool x.1) ∧ Below W.heap.size W w' := by
  go_enter Tryd.func48, Tryd.ntmps48
  go_wp2
  go_ret
  exact ⟨rfl, allocB _ _⟩
def Found (W : World) (b : Bool) (e : Ending) (w' : World) : Prop := ∃ r : Int, e = .returned (.int .i64 r) ∧ decide (r ≥ 0) = b ∧ Below W.heap.size W w'
set_option maxRecDepth 100000 in
set_option maxHeartbeats 2000000 in
theorem index_walk {W : World} {a : Option Addr} {cap : Nat} {xs : List Nm} (hr : Row W a xs) : Calls P 66 #[.slice a xs.length cap, .func (.func 48) #[] #[]] W (Found W (anyBot xs)) := by
  have hbig := hr.big
  have HR := Lib.hid hr
  clear hr
  have HB0 := Lib.hid (Below.refl W.heap.size W)
  go_enter Tryd.func66, Tryd.ntmps66
  go_wp2
  go_loopw [8] (fun i wx => ∃ k : Nat, k ≤ xs.length ∧ i = .int .i64 k ∧ anyBot (xs.drop k) = anyBot xs ∧ Below W.heap.size W wx) (fun i _ => xs.length - (intOf i).toNat)
  case atStart => exact ⟨0, Nat.zero_le _, rfl, by simp, HB0.out⟩
  case round =>
    obtain ⟨k, hk, rfl, hd, hL⟩ := hrel
    have HE := Lib.hid hL
    have HD := Lib.hid hd
    clear hL HB0 hd
    by_cases hlt : k < xs.length
    · obtain ⟨b, off, rfl, hbl, c0, c1, c2, c3, c4⟩ := (HR.out.below HE.out).at_ k hlt
      go_wp2_with (go_at_call 48; refine (bot_walk _ xs[k]).mono ?_; rintro e W2 ⟨rfl, hb⟩; refine Hid.out ?_)
      have HE2 := Lib.hid (HE.out.trans (hb.mono HE.out.size))
      have hstep : anyBot (xs.drop k) = (xs[k].1 || anyBot (xs.drop (k + 1))) := by rw [List.drop_eq_getElem_cons hlt]; rfl
      have HS := Lib.hid hstep
      clear hb HE c0 c1 c2 c3 c4 hstep
      refine Lib.hid ?_
      cases hb : xs[k].1 with
      | true =>
        have hv := HS.out
        rw [hb, HD.out] at hv
        have HV := Lib.hid hv
        clear hv hb
        go_wp2
        go_ret
        exact ⟨k, rfl, by rw [HV.out]; simp, HE2.out⟩
      | false =>
        have hv := HS.out
        rw [hb, HD.out] at hv
        have HV := Lib.hid hv
        clear hv hb
        go_wp2
        exact ⟨⟨k + 1, by omega, by go_num, by rw [HV.out]; simp, HE2.out⟩, by simp [intOf]; omega⟩
    · obtain rfl : k = xs.length := by omega
      go_wp2
      go_ret
      exact ⟨-1, rfl, by rw [← HD.out, List.drop_length]; rfl, HE.out⟩
set_option maxHeartbeats 1000000 in
theorem contains_walk {W : World} {a : Option Addr} {cap : Nat} {xs : List Nm} (hr : Row W a xs) : Calls P 49 #[.slice a xs.length cap, .func (.func 48) #[] #[]] W fun e w' => e = .returned (.bool (anyBot xs)) ∧ Below W.heap.size W w' := by
  have HR := Lib.hid hr
  clear hr
  go_enter Tryd.func49, Tryd.ntmps49
  go_wp2_with (go_at_call 66; refine (index_walk (cap := cap) HR.out).mono ?_; rintro e W2 ⟨r, rfl, hd, hb⟩; refine Hid.out ?_)
  have HB := Lib.hid hb
  have HD := Lib.hid hd
  clear hb hd
  refine Lib.hid ?_
  go_wp2
  go_ret
  exact ⟨by rw [← HD.out]; rfl, HB.out⟩
end Go.Proofs.YtmadebejnhinoaaDoor.V


set_option linter.unusedVariables false
set_option linter.unusedSimpArgs false
namespace Go.Proofs.YtmadebejnhinoaaDoor.V
open Go Go.Wk Go.RowKit

theorem cells3 {w : World} {b : Nat} {d : Bool} {sv sa : Value} (h : w.heap[b]? = some (.cells #[.bool d, sv, sa] 24 (0, 0))) : w.cell? ⟨b, 0, none⟩ = some (.bool d) ∧ w.cell? ⟨b, 1, none⟩ = some sv ∧ w.cell? ⟨b, 2, none⟩ = some sa ∧ w.frozen? ⟨b, 0, none⟩ = false ∧ w.frozen? ⟨b, 1, none⟩ = false ∧ w.frozen? ⟨b, 2, none⟩ = false := by
  refine ⟨?_, ?_, ?_, ?_, ?_, ?_⟩ <;> simp [World.cell?, World.frozen?, h]
/-- an answer that is an abstract store -/
def EnvdB (B : Nat) (w : World) (E : EnvP) (e : Ending) (w' : World) : Prop := ∃ v, e = .returned v ∧ Below w.heap.size w w' ∧ EnvF B w' v E
def Envd (w : World) : EnvP → Ending → World → Prop := EnvdB w.heap.size w
/-- the box of the argument, and the result's -/
structure LB (W w : World) (d : Bool) (sv sa : Value) (d' : Bool) (sv' sa' : Value) : Prop where
  bel : Below W.heap.size W w
  sz : W.heap.size + 1 < w.heap.size
  rA : w.heap[W.heap.size]? = some (.cells #[.bool d, sv, sa] 24 (0, 0))
  rB : w.heap[W.heap.size + 1]? = some (.cells #[.bool d', sv', sa'] 24 (0, 0))
theorem LB.below {W w w' : World} {d d' : Bool} {sv sa sv' sa' : Value} (h : LB W w d sv sa d' sv' sa') (hb : Below w.heap.size w w') : LB W w' d sv sa d' sv' sa' where
  bel := h.bel.trans (hb.mono h.bel.size)
  sz := Nat.lt_of_lt_of_le h.sz hb.size
  rA := (hb.block _ (by have := h.sz; omega)).trans h.rA
  rB := (hb.block _ h.sz).trans h.rB
theorem LB.start (W : World) (d : Bool) (sv sa : Value) : LB W ((W.alloc (.cells #[.bool d, sv, sa] 24)).alloc (.cells #[.bool false, .slice none 0 0, .slice none 0 0] 24)) d sv sa false (.slice none 0 0) (.slice none 0 0) where
  bel := belA (allocB W _) (Nat.le_refl _) _
  sz := by simp
  rA := ((allocB _ _).block _ (allocL _ _)).trans (allocR _ _)
  rB := by have := allocR (W.alloc (.cells #[.bool d, sv, sa] 24)) (.cells #[.bool false, .slice none 0 0, .slice none 0 0] 24); simpa using this
theorem heap_set0' {w : World} {b i : Nat} {v : Value} {cs : Array Value} {t : TypeId} (h : w.heap[b]? = some (.cells cs t (0, 0))) : (w.setCell ⟨b, i, none⟩ v).heap[b]? = some (.cells (cs.setIfInBounds i v) t (0, 0)) := heap_setCell_same w b i cs t v h
theorem set_bel' (w : World) {n b i : Nat} (v : Value) (h : n ≤ b) : Below n w (w.setCell ⟨b, i, none⟩ v) := (Below.refl n w).setCell (by simpa using h) v
def set3 (w : World) (b : Nat) (x y z : Value) : World := ((w.setCell ⟨b, 0, none⟩ x).setCell ⟨b, 1, none⟩ y).setCell ⟨b, 2, none⟩ z
theorem LB.put {W w : World} {d d' : Bool} {sv sa sv' sa' : Value} (h : LB W w d sv sa d' sv' sa') (d2 : Bool) (s2 t2 : Value) : LB W (set3 w (W.heap.size + 1) (.bool d2) s2 t2) d sv sa d2 s2 t2 where
  bel := ((h.bel.trans (set_bel' w _ (by omega))).trans (set_bel' _ _ (by omega))).trans (set_bel' _ _ (by omega))
  sz := by have := h.sz; simpa [set3] using this
  rA := ((heap_setCell_other _ _ _ _ (by simp)).trans ((heap_setCell_other _ _ _ _ (by simp)).trans (heap_setCell_other w _ _ _ (by simp)))).trans h.rA
  rB := (heap_set0' (heap_set0' (heap_set0' h.rB))).trans (by simp)
theorem livelyE_d {E : EnvP} (h : (E.dead || anyBot E.vs || anyBot E.ars) = true) : livelyE E = deadE := by unfold livelyE; rw [if_pos h]
theorem livelyE_l {E : EnvP} (h : (E.dead || anyBot E.vs || anyBot E.ars) = false) : livelyE E = E := by unfold livelyE; rw [if_neg (by simp [h])]
theorem lb_ret30 {W w : World} {d d' : Bool} {sv sa sv' sa' : Value} {t : Array Value} {E : EnvP} (h : LB W w d sv sa d' sv' sa') (ht : t.getD 2 undef = .pointer (some ⟨W.heap.size + 1, 0, none⟩)) {B : Nat} (hE : EnvF B w (evx d' sv' sa') E) : bodyPost P Tryd.f30 (EnvdB B W E) .ret ⟨t, []⟩ w := by
  obtain ⟨d0, d1, d2, _, _, _⟩ := cells3 h.rB
  refine bodyPost_ret (v := evx d' sv' sa') ?_ rfl ⟨_, rfl, h.bel, hE⟩
  simp only [Array.getD_eq_getD_getElem?] at ht
  simp [results, Tryd.results30, go_sem, ht, d0, d1, d2]
set_option maxRecDepth 100000 in
set_option maxHeartbeats 2000000 in
theorem lively_walk {W : World} {sv sa : Value} {E : EnvP} {B : Nat} (h1 : SlF B W sv E.vs) (h2 : SlF B W sa E.ars) : Calls P 30 #[evx E.dead sv sa] W (EnvdB B W (livelyE E)) := by
  have H1 := Lib.hid h1
  have H2 := Lib.hid h2
  obtain ⟨⟨a, c, rfl, r1⟩, _⟩ := h1
  obtain ⟨⟨a', c', rfl, r2⟩, _⟩ := h2
  have R1 := Lib.hid r1
  have R2 := Lib.hid r2
  clear r1 r2
  have HL := Lib.hid (LB.start W E.dead (.slice a E.vs.length c) (.slice a' E.ars.length c'))
  have HD := Lib.hid (@livelyE_d E)
  have HV := Lib.hid (@livelyE_l E)
  obtain ⟨d, vs, ars⟩ := E
  simp only at *
  go_enter Tryd.func30, Tryd.ntmps30
  cases d with
  | true =>
    go_wp2_with (go_at_call 23; refine (dead_walk _).mono ?_; rintro e W1 ⟨rfl, hb⟩; refine Hid.out ?_)
    have HL1 := Lib.hid (HL.out.below hb)
    clear hb HL
    obtain ⟨c0, c1, c2, f0, f1, f2⟩ := cells3 HL1.out.rB
    refine Lib.hid ?_
    go_wp2
    exact lb_ret30 (HL1.out.put true (.slice none 0 0) (.slice none 0 0)) rfl (by rw [HD.out rfl]; exact env_dead _ _)
  | false =>
    go_wp2_with (go_at_call 49; refine (contains_walk (R1.out.below HL.out.bel)).mono ?_; rintro e W1 ⟨rfl, hb⟩; refine Hid.out ?_)
    have HL1 := Lib.hid (HL.out.below hb)
    clear hb HL
    refine Lib.hid ?_
    cases hv : anyBot vs with
    | true =>
      have HD2 := Lib.hid (HD.out (by rw [hv]; rfl))
      clear hv HD HV
      go_wp2_with (go_at_call 23; refine (dead_walk _).mono ?_; rintro e W2 ⟨rfl, hb⟩; refine Hid.out ?_)
      have HL2 := Lib.hid (HL1.out.below hb)
      clear hb HL1
      obtain ⟨c0, c1, c2, f0, f1, f2⟩ := cells3 HL2.out.rB
      refine Lib.hid ?_
      go_wp2
      exact lb_ret30 (HL2.out.put true (.slice none 0 0) (.slice none 0 0)) rfl (by rw [HD2.out]; exact env_dead _ _)
    | false =>
      obtain ⟨c0, c1, c2, f0, f1, f2⟩ := cells3 HL1.out.rA
      clear f0 f1 f2
      go_wp2_with (go_at_call 49; refine (contains_walk (R2.out.below HL1.out.bel)).mono ?_; rintro e W2 ⟨rfl, hb⟩; refine Hid.out ?_)
      have HL2 := Lib.hid (HL1.out.below hb)
      clear hb HL1 c0 c1 c2
      refine Lib.hid ?_
      cases ha : anyBot ars with
      | true =>
        have HD2 := Lib.hid (HD.out (by rw [hv, ha]; rfl))
        clear hv ha HD HV
        go_wp2_with (go_at_call 23; refine (dead_walk _).mono ?_; rintro e W3 ⟨rfl, hb⟩; refine Hid.out ?_)
        have HL3 := Lib.hid (HL2.out.below hb)
        clear hb HL2
        obtain ⟨c0, c1, c2, f0, f1, f2⟩ := cells3 HL3.out.rB
        refine Lib.hid ?_
        go_wp2
        exact lb_ret30 (HL3.out.put true (.slice none 0 0) (.slice none 0 0)) rfl (by rw [HD2.out]; exact env_dead _ _)
      | false =>
        have HD2 := Lib.hid (HV.out (by rw [hv, ha]; rfl))
        clear hv ha HD HV
        obtain ⟨c0, c1, c2, _, _, _⟩ := cells3 HL2.out.rA
        obtain ⟨e0, e1, e2, f0, f1, f2⟩ := cells3 HL2.out.rB
        have HP := Lib.hid (HL2.out.put false (.slice a vs.length c) (.slice a' ars.length c'))
        go_wp2
        exact lb_ret30 HP.out rfl (by rw [HD2.out]; exact ⟨_, _, rfl, H1.out.below HP.out.bel, H2.out.below HP.out.bel⟩)
end Go.Proofs.YtmadebejnhinoaaDoor.V


set_option linter.unusedVariables false
set_option linter.unusedSimpArgs false
namespace Go.Proofs.YtmadebejnhinoaaDoor.V
open Go Go.Wk Go.RowKit

/-- what a cell holds -/
def peek (w : World) (a : Addr) : Value := (w.cell? a).getD undef
/-- blocks below b are as they were; block b is a store's variable -/
structure SB (b : Nat) (w w' : World) : Prop where
  bel : Below b w w'
  blk : ∃ x y z, w'.heap[b]? = some (.cells #[x, y, z] 24 (0, 0))
theorem SB.start {b : Nat} {w : World} (h : ∃ x y z, w.heap[b]? = some (.cells #[x, y, z] 24 (0, 0))) : SB b w w := ⟨Below.refl _ _, h⟩
theorem SB.lt {b : Nat} {w w' : World} (h : SB b w w') : b < w'.heap.size := by
  obtain ⟨x, y, z, e⟩ := h.blk
  exact (Array.getElem?_eq_some_iff.1 e).1
theorem SB.below {b : Nat} {w w' w'' : World} (h : SB b w w') (hb : Below w'.heap.size w' w'') : SB b w w'' :=
  ⟨h.bel.trans (hb.mono (Nat.le_of_lt h.lt)), by obtain ⟨x, y, z, e⟩ := h.blk; exact ⟨x, y, z, (hb.block _ h.lt).trans e⟩⟩
theorem SB.drew {b : Nat} {w w' : World} (h : SB b w w') : SB b w w'.drew := ⟨⟨h.bel.os, h.bel.tape, h.bel.output, h.bel.size, h.bel.block⟩, h.blk⟩
theorem SB.put {b : Nat} {w w' : World} (h : SB b w w') (x y z : Value) : SB b w (((w'.setCell ⟨b, 0, none⟩ x).setCell ⟨b, 1, none⟩ y).setCell ⟨b, 2, none⟩ z) ∧ (((w'.setCell ⟨b, 0, none⟩ x).setCell ⟨b, 1, none⟩ y).setCell ⟨b, 2, none⟩ z).heap[b]? = some (.cells #[x, y, z] 24 (0, 0)) := by
  obtain ⟨x0, y0, z0, e⟩ := h.blk
  have k := (heap_set0' (i := 2) (v := z) (heap_set0' (i := 1) (v := y) (heap_set0' (i := 0) (v := x) e)))
  have k' : (((w'.setCell ⟨b, 0, none⟩ x).setCell ⟨b, 1, none⟩ y).setCell ⟨b, 2, none⟩ z).heap[b]? = some (.cells #[x, y, z] 24 (0, 0)) := k.trans (by simp)
  exact ⟨⟨((h.bel.trans (set_bel' w' _ (Nat.le_refl _))).trans (set_bel' _ _ (Nat.le_refl _))).trans (set_bel' _ _ (Nat.le_refl _)), _, _, _, k'⟩, k'⟩
theorem put_blk {b : Nat} {w : World} (h : ∃ x y z, w.heap[b]? = some (.cells #[x, y, z] 24 (0, 0))) (x y z : Value) : (((w.setCell ⟨b, 0, none⟩ x).setCell ⟨b, 1, none⟩ y).setCell ⟨b, 2, none⟩ z).heap[b]? = some (.cells #[x, y, z] 24 (0, 0)) := by
  obtain ⟨x0, y0, z0, e⟩ := h
  exact (heap_set0' (i := 2) (v := z) (heap_set0' (i := 1) (v := y) (heap_set0' (i := 0) (v := x) e))).trans (by simp)
theorem SB.cells {b : Nat} {w w' : World} (h : SB b w w') : w'.cell? ⟨b, 0, none⟩ = some (peek w' ⟨b, 0, none⟩) ∧ w'.cell? ⟨b, 1, none⟩ = some (peek w' ⟨b, 1, none⟩) ∧ w'.cell? ⟨b, 2, none⟩ = some (peek w' ⟨b, 2, none⟩) ∧ w'.frozen? ⟨b, 0, none⟩ = false ∧ w'.frozen? ⟨b, 1, none⟩ = false ∧ w'.frozen? ⟨b, 2, none⟩ = false := by
  obtain ⟨x, y, z, e⟩ := h.blk
  unfold peek
  refine ⟨?_, ?_, ?_, ?_, ?_, ?_⟩ <;> simp [World.cell?, World.frozen?, e]
set_option maxRecDepth 100000 in
set_option maxHeartbeats 4000000 in
theorem norm_walk {W : World} (hG : GOK G W) {v : Value} {E : EnvP} (hE : EnvAt W v E) : Calls P 13 #[v] W (Envd W (normE E)) := by
  obtain ⟨sv, sa, rfl, h1, h2⟩ := hE
  obtain ⟨a, c, rfl, r1⟩ := h1
  obtain ⟨a', c', rfl, r2⟩ := h2
  have R1 := Lib.hid r1
  have R2 := Lib.hid r2
  have HG := Lib.hid hG
  clear r1 r2 hG
  have HL := Lib.hid (LB.start W E.dead (.slice a E.vs.length c) (.slice a' E.ars.length c'))
  have HN := Lib.hid (show normE E = if E.dead then deadE else livelyE ⟨false, E.vs.map normS, E.ars.map normS⟩ from rfl)
  obtain ⟨d, vs, ars⟩ := E
  simp only at *
  go_enter Tryd.func13, Tryd.ntmps13
  cases d with
  | true =>
    go_wp2_with (go_at_call 23; refine (dead_walk _).mono ?_; rintro e W1 ⟨rfl, hb⟩; refine Hid.out ?_)
    have HL1 := Lib.hid (HL.out.below hb)
    clear hb HL
    obtain ⟨c0, c1, c2, f0, f1, f2⟩ := cells3 HL1.out.rB
    have HP := Lib.hid (HL1.out.put true (.slice none 0 0) (.slice none 0 0))
    refine Lib.hid ?_
    go_wp2
    obtain ⟨d0, d1, d2, _, _, _⟩ := cells3 HP.out.rB
    refine bodyPost_ret (v := evx true (.slice none 0 0) (.slice none 0 0)) ?_ rfl ⟨_, rfl, HP.out.bel, by rw [HN.out]; exact env_dead _ _⟩
    unfold set3 at d0 d1 d2
    simp [results, Tryd.results13, go_sem, d0, d1, d2]
  | false =>
    go_wp2
    have HNn := Lib.hid (show normE ⟨false, vs, ars⟩ = livelyE ⟨false, vs.map normS, ars.map normS⟩ from rfl)
    clear HN
    generalize hwe : (W.alloc (.cells #[.bool false, .slice a vs.length c, .slice a' ars.length c'] 24)).alloc (.cells #[.bool false, .slice none 0 0, .slice none 0 0] 24) = wE at *
    have H0 := Lib.hid (SB.start ⟨_, _, _, HL.out.rB⟩ : SB (W.heap.size + 1) wE wE)
    clear hwe
    have hsz := HL.out.sz
    have cA : ∀ w', SB (W.heap.size + 1) wE w' → w'.cell? ⟨W.heap.size, 1, none⟩ = some (.slice a vs.length c) ∧ w'.cell? ⟨W.heap.size, 2, none⟩ = some (.slice a' ars.length c') := fun w' h => by
      have := (h.bel.block W.heap.size (by omega)).trans HL.out.rA
      exact ⟨(cells3 this).2.1, (cells3 this).2.2.1⟩
    have cB : ∀ w', SB (W.heap.size + 1) wE w' → w'.cell? ⟨W.heap.size + 1, 0, none⟩ = some (peek w' ⟨W.heap.size + 1, 0, none⟩) ∧ w'.cell? ⟨W.heap.size + 1, 1, none⟩ = some (peek w' ⟨W.heap.size + 1, 1, none⟩) ∧ w'.cell? ⟨W.heap.size + 1, 2, none⟩ = some (peek w' ⟨W.heap.size + 1, 2, none⟩) ∧
        w'.frozen? ⟨W.heap.size + 1, 0, none⟩ = false ∧ w'.frozen? ⟨W.heap.size + 1, 1, none⟩ = false ∧ w'.frozen? ⟨W.heap.size + 1, 2, none⟩ = false := fun w' h => h.cells
    go_region_held3 (fun w' => SB (W.heap.size + 1) wE w') (first | assumption | exact SB.drew H0.out | exact (SB.put (by assumption) _ _ _).1)
      (first
        | (go_at_call 31
           have hS := ‹SB (W.heap.size + 1) wE _›
           first
             | (with_reducible refine (each_norm (cap := c) (gok_b HG.out (Nat.le_refl _) (HL.out.bel.trans (hS.bel.mono (by omega)))) (R1.out.below (HL.out.bel.trans (hS.bel.mono (by omega))))).mono ?_)
               rintro e w' ⟨v1, rfl, hb, ⟨a1, c1, rfl, hr1⟩, hf1⟩
               simp only [List.length_map] at hf1
               have hS' := hS.below hb
               have hs1 : SlF wE.heap.size w' (.slice a1 vs.length c1) (vs.map normS) := ⟨⟨a1, c1, (by congr 1; exact (List.length_map _).symm), hr1⟩, by intro b hb'; exact Nat.le_trans (by simp [hS.bel.size]) (hf1 b hb')⟩
               clear hS hb hr1 hf1
               simp only [List.length_map]
             | (with_reducible refine (each_norm (cap := c') (gok_b HG.out (Nat.le_refl _) (HL.out.bel.trans (hS.bel.mono (by omega)))) (R2.out.below (HL.out.bel.trans (hS.bel.mono (by omega))))).mono ?_)
               rintro e w'' ⟨v2, rfl, hb, ⟨a2, c2, rfl, hr2⟩, hf2⟩
               simp only [List.length_map] at hf2
               have hS' := hS.below hb
               have hs2 : SlF wE.heap.size w'' (.slice a2 ars.length c2) (ars.map normS) := ⟨⟨a2, c2, (by congr 1; exact (List.length_map _).symm), hr2⟩, by intro b hb'; exact Nat.le_trans hS.bel.size (hf2 b hb')⟩
               have hs3 := hs1.below hb
               clear hS hb hs1 hr2 hf2
               simp only [List.length_map])
        | (go_at_call 30
           have hS := ‹SB (W.heap.size + 1) wE _›
           refine (lively_walk (E := ⟨false, vs.map normS, ars.map normS⟩) hs3 hs2).mono ?_
           rintro e w3 ⟨lv, rfl, hb, henv⟩
           rw [← HNn.out] at henv
           obtain ⟨s1, s2, rfl, ⟨⟨q1, d1, rfl, hq1⟩, k1⟩, ⟨⟨q2, d2, rfl, hq2⟩, k2⟩⟩ := henv
           have henv : EnvF wE.heap.size w3 (evx (normE ⟨false, vs, ars⟩).dead (.slice q1 (normE ⟨false, vs, ars⟩).vs.length d1) (.slice q2 (normE ⟨false, vs, ars⟩).ars.length d2)) (normE ⟨false, vs, ars⟩) := ⟨_, _, rfl, ⟨⟨q1, d1, rfl, hq1⟩, k1⟩, ⟨⟨q2, d2, rfl, hq2⟩, k2⟩⟩
           have hS' := hS.below hb
           have hblk := Lib.hid hS'.blk
           clear hS hb hs3 hs2 hq1 hq2 k1 k2))
    have hS := ‹SB (W.heap.size + 1) wE _›
    have hp := put_blk hblk.out (.bool (normE ⟨false, vs, ars⟩).dead) (.slice q1 (normE ⟨false, vs, ars⟩).vs.length d1) (.slice q2 (normE ⟨false, vs, ars⟩).ars.length d2)
    have hE2 := Lib.hid ((((henv.set (b := W.heap.size + 1) (i := 0) (u := .bool (normE ⟨false, vs, ars⟩).dead) hsz).set (b := W.heap.size + 1) (i := 1) (u := .slice q1 (normE ⟨false, vs, ars⟩).vs.length d1) hsz).set (b := W.heap.size + 1) (i := 2) (u := .slice q2 (normE ⟨false, vs, ars⟩).ars.length d2) hsz).mono (B' := W.heap.size) (by omega))
    have hB2 := Lib.hid (HL.out.bel.trans (hS.bel.mono (by omega)))
    obtain ⟨p0, p1, p2, _, _, _⟩ := cells3 hp
    clear hS hp henv cA cB
    go_wp2
    refine bodyPost_ret (v := evx (normE ⟨false, vs, ars⟩).dead (.slice q1 (normE ⟨false, vs, ars⟩).vs.length d1) (.slice q2 (normE ⟨false, vs, ars⟩).ars.length d2)) ?_ rfl ⟨_, rfl, hB2.out, hE2.out⟩
    simp [results, Tryd.results13, go_sem, p0, p1, p2]
end Go.Proofs.YtmadebejnhinoaaDoor.V


set_option linter.unusedVariables false
set_option linter.unusedSimpArgs false
namespace Go.Proofs.YtmadebejnhinoaaDoor.V
open Go Go.Wk Go.RowKit

set_option maxHeartbeats 1000000 in
theorem unlike_walk {W : World} {v v' : Value} {E F : EnvP} (hE : EnvAt W v E) (hF : EnvAt W v' F) : Calls P 19 #[v, v'] W fun e w' => e = .returned (.bool (unlikeE E F)) ∧ Below W.heap.size W w' := by
  obtain ⟨_, _, rfl, ⟨a, c, rfl, r1⟩, ⟨b, d, rfl, r2⟩⟩ := hE
  obtain ⟨_, _, rfl, ⟨a', c', rfl, r3⟩, ⟨b', d', rfl, r4⟩⟩ := hF
  have hb1 := r1.big
  have hb2 := r2.big
  have hb3 := r3.big
  have hb4 := r4.big
  clear r1 r2 r3 r4
  have hu : unlikeE E F = (!decide (E.vs.length = F.vs.length) || !decide (E.ars.length = F.ars.length)) := rfl
  have HU := Lib.hid hu
  clear hu
  have HB := Lib.hid (belA (allocB W (.cells #[.bool E.dead, .slice a E.vs.length c, .slice b E.ars.length d] 24)) (Nat.le_refl _) (.cells #[.bool F.dead, .slice a' F.vs.length c', .slice b' F.ars.length d'] 24))
  go_enter Tryd.func19, Tryd.ntmps19
  by_cases h1 : E.vs.length = F.vs.length
  · by_cases h2 : E.ars.length = F.ars.length
    · go_wp2
      go_ret
      exact ⟨by rw [HU.out]; simp [h1, h2], belA (allocB W _) (Nat.le_refl _) _⟩
    · go_wp2
      go_ret
      exact ⟨by rw [HU.out]; simp [h1, h2]; omega, belA (allocB W _) (Nat.le_refl _) _⟩
  · go_wp2
    go_ret
    exact ⟨by rw [HU.out]; simp [h1], belA (allocB W _) (Nat.le_refl _) _⟩
theorem all2b_drop {p : Nm → Nm → Bool} {xs ys : List Nm} {k : Nat} (h : k < xs.length) (h' : k < ys.length) : all2b p (xs.drop k) (ys.drop k) = (p xs[k] ys[k] && all2b p (xs.drop (k + 1)) (ys.drop (k + 1))) := by
  rw [List.drop_eq_getElem_cons h, List.drop_eq_getElem_cons h']; rfl
set_option maxRecDepth 100000 in
set_option maxHeartbeats 2000000 in
theorem equalf_walk {W : World} (hG : GOK G W) {a a' : Option Addr} {cap cap' : Nat} {xs ys : List Nm} (hr : Row W a xs) (hr' : Row W a' ys) (hl : xs.length = ys.length) : Calls P 20 #[.slice a xs.length cap, .slice a' ys.length cap', .func (.func 21) #[] #[]] W fun e w' => e = .returned (.bool (all2b leqS xs ys)) ∧ Below W.heap.size W w' := by
  have hbig := hr.big
  have HG := Lib.hid hG
  have HR := Lib.hid hr
  have HR' := Lib.hid hr'
  clear hr hr' hG
  have HB0 := Lib.hid (Below.refl W.heap.size W)
  rw [← hl]
  have HL := Lib.hid hl
  clear hl
  go_enter Tryd.func20, Tryd.ntmps20
  go_wp2
  go_loopw [17] (fun i wx => ∃ k : Nat, k ≤ xs.length ∧ i = .int .i64 k ∧ all2b leqS (xs.drop k) (ys.drop k) = all2b leqS xs ys ∧ Below W.heap.size W wx) (fun i _ => xs.length - (intOf i).toNat)
  case atStart => exact ⟨0, Nat.zero_le _, rfl, by simp, HB0.out⟩
  case round =>
    obtain ⟨k, hk, rfl, hd, hLL⟩ := hrel
    have HE := Lib.hid hLL
    have HD := Lib.hid hd
    clear hLL HB0 hd
    by_cases hlt : k < xs.length
    · have hlt' : k < ys.length := by rw [← HL.out]; exact hlt
      obtain ⟨b, off, rfl, hbl, c0, c1, c2, c3, c4⟩ := (HR.out.below HE.out).at_ k hlt
      obtain ⟨b', off', rfl, hbl', e0, e1, e2, e3, e4⟩ := (HR'.out.below HE.out).at_ k hlt'
      have HBB := Lib.hid (belA (belA HE.out (Nat.le_refl _) (.cells (ncs xs[k]) 46)) (Nat.le_refl _) (.cells (ncs ys[k]) 46))
      go_wp2_with (go_at_call 21; refine (k_leq (gok_b HG.out (Nat.le_refl _) HBB.out) (HR.out.raw _ (List.getElem_mem hlt)) (HR'.out.raw _ (List.getElem_mem hlt'))).mono ?_; rintro e W2 ⟨rfl, hb⟩; refine Hid.out ?_)
      have HE2 := Lib.hid (HBB.out.trans (hb.mono HBB.out.size))
      have HS := Lib.hid (all2b_drop (p := leqS) hlt hlt')
      clear hb HE HBB c0 c1 c2 c3 c4 e0 e1 e2 e3 e4
      refine Lib.hid ?_
      cases hb : leqS xs[k] ys[k] with
      | true =>
        have hv := HS.out
        rw [hb, HD.out] at hv
        have HV := Lib.hid hv
        clear hv hb
        go_wp2
        exact ⟨⟨k + 1, by omega, by go_num, by rw [HV.out]; simp, HE2.out⟩, by simp [intOf]; omega⟩
      | false =>
        have hv := HS.out
        rw [hb, HD.out] at hv
        have HV := Lib.hid hv
        clear hv hb
        go_wp2
        go_ret
        exact ⟨by rw [HV.out]; simp, HE2.out⟩
    · obtain rfl : k = xs.length := by omega
      go_wp2
      go_ret
      have hv := HD.out
      rw [List.drop_length] at hv
      exact ⟨by rw [← hv]; rfl, HE.out⟩
theorem nm_way (x y : Nm) : x = y ∨ (x ≠ y ∧ (¬ x.1 = y.1 ∨ (x.1 = y.1 ∧ ¬ x.2.1 = y.2.1) ∨ (x.1 = y.1 ∧ x.2.1 = y.2.1 ∧ ¬ x.2.2.1 = y.2.2.1) ∨ (x.1 = y.1 ∧ x.2.1 = y.2.1 ∧ x.2.2.1 = y.2.2.1 ∧ ¬ x.2.2.2.1 = y.2.2.2.1) ∨ (x.1 = y.1 ∧ x.2.1 = y.2.1 ∧ x.2.2.1 = y.2.2.1 ∧ x.2.2.2.1 = y.2.2.2.1 ∧ ¬ x.2.2.2.2 = y.2.2.2.2))) := by
  obtain ⟨a0, a1, a2, a3, a4⟩ := x
  obtain ⟨b0, b1, b2, b3, b4⟩ := y
  simp only [Prod.mk.injEq, ne_eq]
  by_cases h0 : a0 = b0 <;> by_cases h1 : a1 = b1 <;> by_cases h2 : a2 = b2 <;> by_cases h3 : a3 = b3 <;> by_cases h4 : a4 = b4 <;> simp [h0, h1, h2, h3, h4]
def eqL (xs ys : List Nm) : Bool := decide (xs = ys)
theorem eqL_drop {xs ys : List Nm} {k : Nat} (h : k < xs.length) (h' : k < ys.length) : eqL (xs.drop k) (ys.drop k) = (decide (xs[k] = ys[k]) && eqL (xs.drop (k + 1)) (ys.drop (k + 1))) := by
  unfold eqL
  rw [List.drop_eq_getElem_cons h, List.drop_eq_getElem_cons h', Bool.eq_iff_iff, decide_eq_true_eq, List.cons.injEq, Bool.and_eq_true, decide_eq_true_eq, decide_eq_true_eq]
set_option maxRecDepth 100000 in
set_option maxHeartbeats 2000000 in
theorem equal_walk {W : World} {a a' : Option Addr} {cap cap' : Nat} {xs ys : List Nm} (hr : Row W a xs) (hr' : Row W a' ys) : Calls P 22 #[.slice a xs.length cap, .slice a' ys.length cap'] W fun e w' => e = .returned (.bool (eqL xs ys)) ∧ Below W.heap.size W w' := by
  have hbig := hr.big
  have hbig' := hr'.big
  have HR := Lib.hid hr
  have HR' := Lib.hid hr'
  clear hr hr'
  have HB0 := Lib.hid (Below.refl W.heap.size W)
  go_enter Tryd.func22, Tryd.ntmps22
  by_cases hl : xs.length = ys.length
  · rw [← hl]
    have HL := Lib.hid hl
    clear hl
    go_wp2
    go_loopw [13] (fun i wx => ∃ k : Nat, k ≤ xs.length ∧ i = .int .i64 k ∧ eqL (xs.drop k) (ys.drop k) = eqL xs ys ∧ Below W.heap.size W wx) (fun i _ => xs.length - (intOf i).toNat)
    case atStart => exact ⟨0, Nat.zero_le _, rfl, by simp, HB0.out⟩
    case round =>
      obtain ⟨k, hk, rfl, hd, hLL⟩ := hrel
      have HE := Lib.hid hLL
      have HD := Lib.hid hd
      clear hLL HB0 hd
      by_cases hlt : k < xs.length
      · have hlt' : k < ys.length := by rw [← HL.out]; exact hlt
        obtain ⟨b, off, rfl, hbl, c0, c1, c2, c3, c4⟩ := (HR.out.below HE.out).at_ k hlt
        obtain ⟨b', off', rfl, hbl', e0, e1, e2, e3, e4⟩ := (HR'.out.below HE.out).at_ k hlt'
        have HS := Lib.hid (eqL_drop hlt hlt')
        go_upto_region 6 with fail
        have nc0 : ∀ w', Below wr.heap.size wr w' → w'.cell? ⟨b, off + k * 5, none⟩ = some (.bool xs[k].1) := fun w' h => (h.cell (by simpa using hbl)).trans c0
        have nc1 : ∀ w', Below wr.heap.size wr w' → w'.cell? ⟨b, off + k * 5 + 1, none⟩ = some (.int .i64 xs[k].2.1) := fun w' h => (h.cell (by simpa using hbl)).trans c1
        have nc2 : ∀ w', Below wr.heap.size wr w' → w'.cell? ⟨b, off + k * 5 + 2, none⟩ = some (.int .i64 xs[k].2.2.1) := fun w' h => (h.cell (by simpa using hbl)).trans c2
        have nc3 : ∀ w', Below wr.heap.size wr w' → w'.cell? ⟨b, off + k * 5 + 3, none⟩ = some (.int .u64 xs[k].2.2.2.1) := fun w' h => (h.cell (by simpa using hbl)).trans c3
        have nc4 : ∀ w', Below wr.heap.size wr w' → w'.cell? ⟨b, off + k * 5 + 4, none⟩ = some (.int .u64 xs[k].2.2.2.2) := fun w' h => (h.cell (by simpa using hbl)).trans c4
        have ne0 : ∀ w', Below wr.heap.size wr w' → w'.cell? ⟨b', off' + k * 5, none⟩ = some (.bool ys[k].1) := fun w' h => (h.cell (by simpa using hbl')).trans e0
        have ne1 : ∀ w', Below wr.heap.size wr w' → w'.cell? ⟨b', off' + k * 5 + 1, none⟩ = some (.int .i64 ys[k].2.1) := fun w' h => (h.cell (by simpa using hbl')).trans e1
        have ne2 : ∀ w', Below wr.heap.size wr w' → w'.cell? ⟨b', off' + k * 5 + 2, none⟩ = some (.int .i64 ys[k].2.2.1) := fun w' h => (h.cell (by simpa using hbl')).trans e2
        have ne3 : ∀ w', Below wr.heap.size wr w' → w'.cell? ⟨b', off' + k * 5 + 3, none⟩ = some (.int .u64 ys[k].2.2.2.1) := fun w' h => (h.cell (by simpa using hbl')).trans e3
        have ne4 : ∀ w', Below wr.heap.size wr w' → w'.cell? ⟨b', off' + k * 5 + 4, none⟩ = some (.int .u64 ys[k].2.2.2.2) := fun w' h => (h.cell (by simpa using hbl')).trans e4
        clear c0 c1 c2 c3 c4 e0 e1 e2 e3 e4
        rcases nm_way xs[k] ys[k] with he | ⟨he, hw⟩
        · have hv := HS.out
          rw [decide_eq_true he, HD.out] at hv
          have HV := Lib.hid hv
          clear hv
          generalize ys[k] = y at *
          generalize xs[k] = x at *
          subst he
          go_region_held3 (fun w' => Below wr.heap.size wr w') (first | assumption | exact ⟨rfl, rfl, rfl, Nat.le_refl _, fun _ _ => rfl⟩ | exact Below.refl _ _) (fail)
          clear nc0 nc1 nc2 nc3 nc4 ne0 ne1 ne2 ne3 ne4
          go_wp2
          exact ⟨⟨k + 1, by omega, by go_num, by rw [HV.out]; simp, HE.out.trans ⟨rfl, rfl, rfl, Nat.le_refl _, fun _ _ => rfl⟩⟩, by simp [intOf]; omega⟩
        · have hv := HS.out
          rw [decide_eq_false he, HD.out] at hv
          have HV := Lib.hid hv
          clear hv
          generalize ys[k] = y at *
          generalize xs[k] = x at *
          clear he
          rcases hw with h0 | ⟨h0, h1⟩ | ⟨h0, h1, h2⟩ | ⟨h0, h1, h2, h3⟩ | ⟨h0, h1, h2, h3, h4⟩
          all_goals
            go_region_held3 (fun w' => Below wr.heap.size wr w') (first | assumption | exact ⟨rfl, rfl, rfl, Nat.le_refl _, fun _ _ => rfl⟩ | exact Below.refl _ _) (fail)
            clear nc0 nc1 nc2 nc3 nc4 ne0 ne1 ne2 ne3 ne4
            go_wp2
            go_ret
            exact ⟨by rw [HV.out]; simp, HE.out.trans ⟨rfl, rfl, rfl, Nat.le_refl _, fun _ _ => rfl⟩⟩
      · obtain rfl : k = xs.length := by omega
        go_wp2
        go_ret
        have hv := HD.out
        rw [List.drop_length, HL.out, List.drop_length] at hv
        exact ⟨by rw [← hv]; rfl, HE.out⟩
  · go_wp2
    go_ret
    exact ⟨by simp only [eqL]; rw [decide_eq_false (fun e => hl (by rw [e]))]; rfl, HB0.out⟩
end Go.Proofs.YtmadebejnhinoaaDoor.V


set_option linter.unusedVariables false
set_option linter.unusedSimpArgs false
namespace Go.Proofs.YtmadebejnhinoaaDoor.V
open Go Go.Wk Go.RowKit

/-- two variables that hold abstract stores, at blocks n and n + 1 -/
structure PB (W w : World) (d : Bool) (sv sa : Value) (d' : Bool) (sv' sa' : Value) : Prop where
  bel : Below W.heap.size W w
  sz : W.heap.size + 1 < w.heap.size
  rA : w.heap[W.heap.size]? = some (.cells #[.bool d, sv, sa] 24 (0, 0))
  rB : w.heap[W.heap.size + 1]? = some (.cells #[.bool d', sv', sa'] 24 (0, 0))
theorem PB.start2 (W : World) (d d' : Bool) (sv sa sv' sa' : Value) : PB W ((W.alloc (.cells #[.bool d, sv, sa] 24)).alloc (.cells #[.bool d', sv', sa'] 24)) d sv sa d' sv' sa' where
  bel := belA (allocB W _) (Nat.le_refl _) _
  sz := by simp
  rA := ((allocB _ _).block _ (allocL _ _)).trans (allocR _ _)
  rB := by have := allocR (W.alloc (.cells #[.bool d, sv, sa] 24)) (.cells #[.bool d', sv', sa'] 24); simpa using this
theorem PB.drew {W w : World} {d d' : Bool} {sv sa sv' sa' : Value} (h : PB W w d sv sa d' sv' sa') : PB W w.drew d sv sa d' sv' sa' := ⟨⟨h.bel.os, h.bel.tape, h.bel.output, h.bel.size, h.bel.block⟩, h.sz, h.rA, h.rB⟩
theorem PB.below {W w w' : World} {d d' : Bool} {sv sa sv' sa' : Value} (h : PB W w d sv sa d' sv' sa') (hb : Below w.heap.size w w') : PB W w' d sv sa d' sv' sa' where
  bel := h.bel.trans (hb.mono h.bel.size)
  sz := Nat.lt_of_lt_of_le h.sz hb.size
  rA := (hb.block _ (by have := h.sz; omega)).trans h.rA
  rB := (hb.block _ h.sz).trans h.rB
theorem PB.putA {W w : World} {d d' : Bool} {sv sa sv' sa' : Value} (h : PB W w d sv sa d' sv' sa') (d2 : Bool) (s2 t2 : Value) : PB W (((w.setCell ⟨W.heap.size, 0, none⟩ (.bool d2)).setCell ⟨W.heap.size, 1, none⟩ s2).setCell ⟨W.heap.size, 2, none⟩ t2) d2 s2 t2 d' sv' sa' where
  bel := ((h.bel.trans (set_bel' w _ (by omega))).trans (set_bel' _ _ (by omega))).trans (set_bel' _ _ (by omega))
  sz := by have := h.sz; simpa using this
  rA := (heap_set0' (heap_set0' (heap_set0' h.rA))).trans (by simp)
  rB := ((heap_setCell_other _ _ _ _ (by simp)).trans ((heap_setCell_other _ _ _ _ (by simp)).trans (heap_setCell_other w _ _ _ (by simp)))).trans h.rB
theorem PB.putB {W w : World} {d d' : Bool} {sv sa sv' sa' : Value} (h : PB W w d sv sa d' sv' sa') (d2 : Bool) (s2 t2 : Value) : PB W (((w.setCell ⟨W.heap.size + 1, 0, none⟩ (.bool d2)).setCell ⟨W.heap.size + 1, 1, none⟩ s2).setCell ⟨W.heap.size + 1, 2, none⟩ t2) d sv sa d2 s2 t2 where
  bel := ((h.bel.trans (set_bel' w _ (by omega))).trans (set_bel' _ _ (by omega))).trans (set_bel' _ _ (by omega))
  sz := by have := h.sz; simpa using this
  rA := ((heap_setCell_other _ _ _ _ (by simp)).trans ((heap_setCell_other _ _ _ _ (by simp)).trans (heap_setCell_other w _ _ _ (by simp)))).trans h.rA
  rB := (heap_set0' (heap_set0' (heap_set0' h.rB))).trans (by simp)
/-- both variables hold normal forms -/
def Both (W : World) (E F : EnvP) (w : World) : Prop := ∃ a c b d a' c' b' d', PB W w E.dead (.slice a E.vs.length c) (.slice b E.ars.length d) F.dead (.slice a' F.vs.length c') (.slice b' F.ars.length d') ∧
  EnvF (W.heap.size + 2) w (evx E.dead (.slice a E.vs.length c) (.slice b E.ars.length d)) E ∧ EnvF (W.heap.size + 2) w (evx F.dead (.slice a' F.vs.length c') (.slice b' F.ars.length d')) F
theorem both_put {W w : World} {E F : EnvP} {d d' : Bool} {sv sa sv' sa' : Value} (h : PB W w d sv sa d' sv' sa') {a1 b1 a2 b2 : Option Addr} {c1 d1 c2 d2 : Nat} (h1 : EnvF (W.heap.size + 2) w (evx E.dead (.slice a1 E.vs.length c1) (.slice b1 E.ars.length d1)) E) (h2 : EnvF (W.heap.size + 2) w (evx F.dead (.slice a2 F.vs.length c2) (.slice b2 F.ars.length d2)) F) :
    Both W E F ((((((w.setCell ⟨W.heap.size, 0, none⟩ (.bool E.dead)).setCell ⟨W.heap.size, 1, none⟩ (.slice a1 E.vs.length c1)).setCell ⟨W.heap.size, 2, none⟩ (.slice b1 E.ars.length d1)).setCell ⟨W.heap.size + 1, 0, none⟩ (.bool F.dead)).setCell ⟨W.heap.size + 1, 1, none⟩ (.slice a2 F.vs.length c2)).setCell ⟨W.heap.size + 1, 2, none⟩ (.slice b2 F.ars.length d2)) :=
  ⟨_, _, _, _, _, _, _, _, (h.putA _ _ _).putB _ _ _, ((((((h1.set (by omega)).set (by omega)).set (by omega)).set (by omega)).set (by omega)).set (by omega)), ((((((h2.set (by omega)).set (by omega)).set (by omega)).set (by omega)).set (by omega)).set (by omega))⟩
theorem env_rows {w : World} {E : EnvP} {dd : Bool} {a b : Option Addr} {n m c d : Nat} (h : EnvAt w (evx dd (.slice a n c) (.slice b m d)) E) : Row w a E.vs ∧ Row w b E.ars := by
  obtain ⟨_, _, e, ⟨q1, k1, rfl, r1⟩, ⟨q2, k2, rfl, r2⟩⟩ := h
  injection e with e
  injection e with e
  simp only [List.cons.injEq, Value.slice.injEq, and_true] at e
  rw [e.2.1.1, e.2.2.1]
  exact ⟨r1, r2⟩
set_option maxRecDepth 100000 in
set_option maxHeartbeats 4000000 in
theorem leq_walk {W : World} (hG : GOK G W) {v v' : Value} {E F : EnvP} (hE : EnvAt W v E) (hF : EnvAt W v' F) : Calls P 7 #[v, v'] W fun e w' => e = .returned (.bool (leqE E F)) ∧ Below W.heap.size W w' := by
  have HE := Lib.hid hE
  have HF := Lib.hid hF
  have HG := Lib.hid hG
  obtain ⟨_, _, rfl, ⟨a, c, rfl, _⟩, ⟨b, d, rfl, _⟩⟩ := hE
  obtain ⟨_, _, rfl, ⟨a', c', rfl, _⟩, ⟨b', d', rfl, _⟩⟩ := hF
  clear hG
  have H0 := Lib.hid (PB.start2 W E.dead F.dead (.slice a E.vs.length c) (.slice b E.ars.length d) (.slice a' F.vs.length c') (.slice b' F.ars.length d'))
  go_enter Tryd.func7, Tryd.ntmps7
  go_upto_region 1 with fail
  generalize (W.alloc (.cells #[.bool E.dead, .slice a E.vs.length c, .slice b E.ars.length d] 24)).alloc (.cells #[.bool F.dead, .slice a' F.vs.length c', .slice b' F.ars.length d'] 24) = wE at *
  go_cut [4] from 5 to 8 (fun _ wx => Both W (normE E) (normE F) wx)
  case first =>
    obtain ⟨c0, c1, c2, f0, f1, f2⟩ := cells3 H0.out.rA
    obtain ⟨e0, e1, e2, g0, g1, g2⟩ := cells3 H0.out.rB
    have hP0 := H0.out.drew
    go_region_with (
      go_at_call 13
      have hP := ‹PB W _ _ _ _ _ _ _›
      first
        | (with_reducible refine (norm_walk (gok_b HG.out (Nat.le_refl _) hP.bel) (HE.out.below hP.bel)).mono ?_)
          rintro e w' ⟨_, rfl, hb, ⟨_, _, rfl, ⟨⟨a1, c1, rfl, r1⟩, k1⟩, ⟨⟨b1, d1, rfl, r2⟩, k2⟩⟩⟩
          have hP' := hP.below hb
          have hR1 : EnvF (W.heap.size + 2) w' (evx (normE E).dead (.slice a1 (normE E).vs.length c1) (.slice b1 (normE E).ars.length d1)) (normE E) := EnvF.mono ⟨_, _, rfl, ⟨⟨a1, c1, rfl, r1⟩, k1⟩, ⟨⟨b1, d1, rfl, r2⟩, k2⟩⟩ hP.sz
          try have hR2' := (show EnvF _ _ _ (normE F) from hR2).below hb
        | (with_reducible refine (norm_walk (gok_b HG.out (Nat.le_refl _) hP.bel) (HF.out.below hP.bel)).mono ?_)
          rintro e w' ⟨_, rfl, hb, ⟨_, _, rfl, ⟨⟨a2, c2, rfl, r3⟩, k3⟩, ⟨⟨b2, d2, rfl, r4⟩, k4⟩⟩⟩
          have hP' := hP.below hb
          have hR2 : EnvF (W.heap.size + 2) w' (evx (normE F).dead (.slice a2 (normE F).vs.length c2) (.slice b2 (normE F).ars.length d2)) (normE F) := EnvF.mono ⟨_, _, rfl, ⟨⟨a2, c2, rfl, r3⟩, k3⟩, ⟨⟨b2, d2, rfl, r4⟩, k4⟩⟩ hP.sz
          try have hR1' := (show EnvF _ _ _ (normE E) from hR1).below hb
      clear hP hb
      obtain ⟨cA0, cA1, cA2, f0, f1, f2⟩ := cells3 hP'.rA
      obtain ⟨e0, e1, e2, g0, g1, g2⟩ := cells3 hP'.rB)
    all_goals (
      have hP := ‹PB W _ _ _ _ _ _ _›
      have h1 := ‹EnvF (W.heap.size + 2) _ _ (normE E)›
      have h2 := ‹EnvF (W.heap.size + 2) _ _ (normE F)›
      have hJ := Lib.hid (both_put hP h1 h2)
      clear hP h1 h2
      go_wp2
      go_meet
      case rel => exact hJ.out)
  case rest =>
    obtain ⟨a1, c1, b1, d1, a2, c2, b2, d2, hP, h1, h2⟩ := hcut
    have HL := Lib.hid (show leqE E F = leqM (normE E) (normE F) from rfl)
    clear H0 HE HF
    generalize normE E = E' at *
    generalize normE F = F' at *
    have HP := Lib.hid hP
    have HA := Lib.hid h1
    have HF := Lib.hid h2
    obtain ⟨cA0, cA1, cA2, _, _, _⟩ := cells3 hP.rA
    obtain ⟨cB0, cB1, cB2, _, _, _⟩ := cells3 hP.rB
    clear hP h1 h2
    have HM := Lib.hid (show leqM E' F' = (E'.dead || (!(F'.dead || unlikeE E' F') && (all2b leqS E'.vs F'.vs && all2b leqS E'.ars F'.ars))) from rfl)
    obtain ⟨de, vs, ars⟩ := E'
    obtain ⟨df, vs', ars'⟩ := F'
    simp only at *
    cases de with
    | true =>
      go_wp2
      go_ret
      exact ⟨by rw [HL.out, HM.out]; rfl, HP.out.bel⟩
    | false =>
      cases df with
      | true =>
        go_wp2
        go_ret
        exact ⟨by rw [HL.out, HM.out]; rfl, HP.out.bel⟩
      | false =>
        go_wp2_with (go_at_call 19; refine (unlike_walk HA.out.at_ HF.out.at_).mono ?_; rintro e W2 ⟨rfl, hb⟩; refine Hid.out ?_)
        have HP2 := Lib.hid (HP.out.below hb)
        have HA2 := Lib.hid (HA.out.below hb)
        have HF2 := Lib.hid (HF.out.below hb)
        clear hb HP HA HF cA0 cA1 cA2 cB0 cB1 cB2
        obtain ⟨cA0, cA1, cA2, _, _, _⟩ := cells3 HP2.out.rA
        obtain ⟨cB0, cB1, cB2, _, _, _⟩ := cells3 HP2.out.rB
        refine Lib.hid ?_
        cases hu : unlikeE ⟨false, vs, ars⟩ ⟨false, vs', ars'⟩ with
        | true =>
          go_wp2
          go_ret
          exact ⟨by rw [HL.out, HM.out, hu]; rfl, HP2.out.bel⟩
        | false =>
          have hlen : vs.length = vs'.length ∧ ars.length = ars'.length := by simpa [unlikeE] using hu
          have HLen := Lib.hid hlen
          have HU := Lib.hid hu
          clear hlen hu
          have hr1 := env_rows HA2.out.at_
          have hr2 := env_rows HF2.out.at_
          have HR1 := Lib.hid hr1
          have HR2 := Lib.hid hr2
          clear hr1 hr2 HA2 HF2
          go_wp2_with (go_at_call 20; refine (equalf_walk (gok_b HG.out (Nat.le_refl _) HP2.out.bel) HR1.out.1 HR2.out.1 HLen.out.1).mono ?_; rintro e W3 ⟨rfl, hb⟩; refine Hid.out ?_)
          have HP3 := Lib.hid (HP2.out.below hb)
          have HR3 := Lib.hid (HR1.out.2.below hb)
          have HR4 := Lib.hid (HR2.out.2.below hb)
          clear hb HP2 HR1 HR2 cA0 cA1 cA2 cB0 cB1 cB2
          obtain ⟨cA0, cA1, cA2, _, _, _⟩ := cells3 HP3.out.rA
          obtain ⟨cB0, cB1, cB2, _, _, _⟩ := cells3 HP3.out.rB
          refine Lib.hid ?_
          have HM2 := Lib.hid (HM.out.trans (by rw [HU.out]; rfl) : leqM ⟨false, vs, ars⟩ ⟨false, vs', ars'⟩ = (all2b leqS vs vs' && all2b leqS ars ars'))
          clear HM HU
          cases hq : all2b leqS vs vs' with
          | false =>
            go_wp2
            go_ret
            exact ⟨by rw [HL.out, HM2.out, hq]; rfl, HP3.out.bel⟩
          | true =>
            have HQ := Lib.hid hq
            clear hq
            go_wp2_with (go_at_call 20; refine (equalf_walk (gok_b HG.out (Nat.le_refl _) HP3.out.bel) HR3.out HR4.out HLen.out.2).mono ?_; rintro e W4 ⟨rfl, hb⟩; refine Hid.out ?_)
            have HB := Lib.hid (HP3.out.below hb).bel
            clear hb
            refine Lib.hid ?_
            go_wp2
            go_ret
            exact ⟨by rw [HL.out, HM2.out, HQ.out]; rfl, HB.out⟩
end Go.Proofs.YtmadebejnhinoaaDoor.V


set_option linter.unusedVariables false
set_option linter.unusedSimpArgs false
namespace Go.Proofs.YtmadebejnhinoaaDoor.V
open Go Go.Wk Go.RowKit

/-- blocks below b are as they were; block b is a Num's variable -/
structure SN (b : Nat) (w w' : World) : Prop where
  bel : Below b w w'
  blk : ∃ x0 x1 x2 x3 x4, w'.heap[b]? = some (.cells #[x0, x1, x2, x3, x4] 46 (0, 0))
theorem SN.lt {b : Nat} {w w' : World} (h : SN b w w') : b < w'.heap.size := by
  obtain ⟨_, _, _, _, _, e⟩ := h.blk
  exact (Array.getElem?_eq_some_iff.1 e).1
theorem SN.below {b : Nat} {w w' w'' : World} (h : SN b w w') (hb : Below w'.heap.size w' w'') : SN b w w'' :=
  ⟨h.bel.trans (hb.mono (Nat.le_of_lt h.lt)), by obtain ⟨x0, x1, x2, x3, x4, e⟩ := h.blk; exact ⟨x0, x1, x2, x3, x4, (hb.block _ h.lt).trans e⟩⟩
theorem SN.drew {b : Nat} {w w' : World} (h : SN b w w') : SN b w w'.drew := ⟨⟨h.bel.os, h.bel.tape, h.bel.output, h.bel.size, h.bel.block⟩, h.blk⟩
def put5 (w : World) (b : Nat) (v0 v1 v2 v3 v4 : Value) : World := ((((w.setCell ⟨b, 0, none⟩ v0).setCell ⟨b, 1, none⟩ v1).setCell ⟨b, 2, none⟩ v2).setCell ⟨b, 3, none⟩ v3).setCell ⟨b, 4, none⟩ v4
theorem put5_blk {b : Nat} {w : World} (h : ∃ x0 x1 x2 x3 x4, w.heap[b]? = some (.cells #[x0, x1, x2, x3, x4] 46 (0, 0))) (v0 v1 v2 v3 v4 : Value) : (put5 w b v0 v1 v2 v3 v4).heap[b]? = some (.cells #[v0, v1, v2, v3, v4] 46 (0, 0)) := by
  obtain ⟨x0, x1, x2, x3, x4, e⟩ := h
  exact (heap_set0' (heap_set0' (heap_set0' (heap_set0' (heap_set0' e))))).trans (by simp)
theorem put5_bel {b n : Nat} (w : World) (hn : n ≤ b) (v0 v1 v2 v3 v4 : Value) : Below n w (put5 w b v0 v1 v2 v3 v4) :=
  ((((set_bel' w _ hn).trans (set_bel' _ _ hn)).trans (set_bel' _ _ hn)).trans (set_bel' _ _ hn)).trans (set_bel' _ _ hn)
theorem SN.put {b : Nat} {w w' : World} (h : SN b w w') (v0 v1 v2 v3 v4 : Value) : SN b w (put5 w' b v0 v1 v2 v3 v4) := ⟨h.bel.trans (put5_bel _ (Nat.le_refl _) _ _ _ _ _), _, _, _, _, _, put5_blk h.blk _ _ _ _ _⟩
theorem SN.cells {b : Nat} {w w' : World} (h : SN b w w') : (w'.cell? ⟨b, 0, none⟩ = some (peek w' ⟨b, 0, none⟩) ∧ w'.cell? ⟨b, 1, none⟩ = some (peek w' ⟨b, 1, none⟩) ∧ w'.cell? ⟨b, 2, none⟩ = some (peek w' ⟨b, 2, none⟩) ∧ w'.cell? ⟨b, 3, none⟩ = some (peek w' ⟨b, 3, none⟩) ∧ w'.cell? ⟨b, 4, none⟩ = some (peek w' ⟨b, 4, none⟩)) ∧
    w'.frozen? ⟨b, 0, none⟩ = false ∧ w'.frozen? ⟨b, 1, none⟩ = false ∧ w'.frozen? ⟨b, 2, none⟩ = false ∧ w'.frozen? ⟨b, 3, none⟩ = false ∧ w'.frozen? ⟨b, 4, none⟩ = false := by
  obtain ⟨x0, x1, x2, x3, x4, e⟩ := h.blk
  unfold peek
  refine ⟨⟨?_, ?_, ?_, ?_, ?_⟩, ?_, ?_, ?_, ?_, ?_⟩ <;> simp [World.cell?, World.frozen?, e]
/-- the memory of pairs: the other list's variable, the counter -/
structure BK (W w : World) (m : Value) (k : Int) : Prop where
  bel : Below W.heap.size W w
  sz : W.heap.size + 1 < w.heap.size
  rm : w.heap[W.heap.size]? = some (.cells #[m] 22 (0, 0))
  ri : w.heap[W.heap.size + 1]? = some (.cells #[.int .i64 k] 3 (0, 0))
/-- all blocks but one are as they were -/
structure BX (b : Nat) (w w' : World) : Prop where
  os : w'.os = w.os
  tape : w'.tape = w.tape
  output : w'.output = w.output
  size : w.heap.size ≤ w'.heap.size
  block : ∀ k, k < w.heap.size → k ≠ b → w'.heap[k]? = w.heap[k]?
theorem BX.of {b : Nat} {w w' : World} (h : Below w.heap.size w w') : BX b w w' := ⟨h.os, h.tape, h.output, h.size, fun k hk _ => h.block k hk⟩
theorem BX.trans {b : Nat} {w w' w'' : World} (h : BX b w w') (h' : BX b w' w'') : BX b w w'' := ⟨h'.os.trans h.os, h'.tape.trans h.tape, h'.output.trans h.output, Nat.le_trans h.size h'.size, fun k hk hn => (h'.block k (Nat.lt_of_lt_of_le hk h.size) hn).trans (h.block k hk hn)⟩
theorem BX.set {b i : Nat} (w : World) (v : Value) : BX b w (w.setCell ⟨b, i, none⟩ v) := ⟨rfl, rfl, rfl, by simp, fun k hk hn => heap_setCell_other _ _ _ _ (by simpa using hn)⟩
theorem BK.below {W w w' : World} {m : Value} {k : Int} (h : BK W w m k) (hb : Below w.heap.size w w') : BK W w' m k where
  bel := h.bel.trans (hb.mono h.bel.size)
  sz := Nat.lt_of_lt_of_le h.sz hb.size
  rm := (hb.block _ (by have := h.sz; omega)).trans h.rm
  ri := (hb.block _ h.sz).trans h.ri
theorem BK.below2 {W w w' : World} {m : Value} {k : Int} {n : Nat} (h : BK W w m k) (hn : W.heap.size + 1 < n) (hb : Below n w w') : BK W w' m k where
  bel := h.bel.trans (hb.mono (by omega))
  sz := Nat.lt_of_lt_of_le h.sz hb.size
  rm := (hb.block _ (by omega)).trans h.rm
  ri := (hb.block _ hn).trans h.ri
theorem BX.below {b n : Nat} {w w' w'' : World} (h : BX b w w') (hn : w.heap.size ≤ n) (hb : Below n w' w'') : BX b w w'' := ⟨hb.os.trans h.os, hb.tape.trans h.tape, hb.output.trans h.output, Nat.le_trans h.size hb.size, fun k hk hx => (hb.block k (by omega)).trans (h.block k hk hx)⟩
theorem BK.set {W w : World} {m : Value} {k k' : Int} (h : BK W w m k) : BK W (w.setCell ⟨W.heap.size + 1, 0, none⟩ (.int .i64 k')) m k' where
  bel := h.bel.trans (set_bel' w _ (by omega))
  sz := by have := h.sz; simpa using this
  rm := (heap_setCell_other _ _ _ _ (by simp)).trans h.rm
  ri := (heap_set0' h.ri).trans (by simp)
/-- what a function does on two Nums -/
def Does (W : World) (g : Nat) (caps : List Value) (op : Nm → Nm → Nm) : Prop := ∀ w', Below W.heap.size W w' → ∀ x y, Raw x → Raw y → Calls P g (nvx x :: nvx y :: caps).toArray w' fun e w'' => e = .returned (nvx (op x y)) ∧ Below w'.heap.size w' w''
/-- a pair of Nums in the closure -/
def Pairs (W : World) (g : Nat) (caps : List Value) (op : Nm → Nm → Nm) : Prop := ∀ (w : World) (bw : Nat), bw < W.heap.size → W.cell? ⟨bw, 0, none⟩ = some (.func (.func g) #[] caps.toArray) → ∀ (a : Option Addr) (cap : Nat) (ys : List Nm), Row W a ys → ∀ (k : Nat) (hk : k < ys.length), BK W w (.slice a ys.length cap) ((k : Int) - 1) → ∀ x, Raw x →
    Calls P 41 #[nvx x, .pointer (some ⟨W.heap.size + 1, 0, none⟩), .pointer (some ⟨bw, 0, none⟩), .pointer (some ⟨W.heap.size, 0, none⟩)] w fun e w' => e = .returned (nvx (op x ys[k])) ∧ BK W w' (.slice a ys.length cap) k ∧ BX (W.heap.size + 1) w w'
set_option maxRecDepth 100000 in
set_option maxHeartbeats 1000000 in
theorem pair27 {W : World} {op : Nm → Nm → Nm} (hop : Does W 27 [] op) : Pairs W 27 [] op := by
  intro w bw hbw hw a cap ys hr k hk hB x hx
  have hbig := hr.big
  have hsz := hB.sz
  obtain ⟨b, off, rfl, hbl, c0, c1, c2, c3, c4⟩ := hr.at_ k hk
  have HK := Lib.hid hB
  have HR := Lib.hid hr
  have HX := Lib.hid hx
  have HOP := Lib.hid hop
  have hB0 := hB.below (belA (allocB w (.cells (ncs x) 46)) (Nat.le_refl _) (.cells #[.bool false, .int .i64 0, .int .i64 0, .int .u64 0, .int .u64 0] 46))
  have hA0 : ((w.alloc (.cells (ncs x) 46)).alloc (.cells #[.bool false, .int .i64 0, .int .i64 0, .int .u64 0, .int .u64 0] 46)).heap[w.heap.size]? = some (.cells (ncs x) 46 (0, 0)) := ((allocB _ _).block _ (allocL _ _)).trans (allocR _ _)
  have hA1 : ((w.alloc (.cells (ncs x) 46)).alloc (.cells #[.bool false, .int .i64 0, .int .i64 0, .int .u64 0, .int .u64 0] 46)).heap[w.heap.size + 1]? = some (.cells #[.bool false, .int .i64 0, .int .i64 0, .int .u64 0, .int .u64 0] 46 (0, 0)) := by
    have := allocR (w.alloc (.cells (ncs x) 46)) (.cells #[.bool false, .int .i64 0, .int .i64 0, .int .u64 0, .int .u64 0] 46); simpa using this
  have hS0 : BX (W.heap.size + 1) w ((w.alloc (.cells (ncs x) 46)).alloc (.cells #[.bool false, .int .i64 0, .int .i64 0, .int .u64 0, .int .u64 0] 46)) := BX.of (belA (allocB w _) (Nat.le_refl _) _)
  clear hop hx hr hB
  go_enter Tryd.func41, Tryd.ntmps41
  go_upto_region 1 with fail
  generalize (w.alloc (.cells #[.bool x.1, .int .i64 x.2.1, .int .i64 x.2.2.1, .int .u64 x.2.2.2.1, .int .u64 x.2.2.2.2] 46)).alloc (.cells #[.bool false, .int .i64 0, .int .i64 0, .int .u64 0, .int .u64 0] 46) = w1 at *
  have hi0 : w1.cell? ⟨W.heap.size + 1, 0, none⟩ = some (.int .i64 ((k : Int) - 1)) := by simp [World.cell?, hB0.ri]
  have hf0 : w1.frozen? ⟨W.heap.size + 1, 0, none⟩ = false := by simp [World.frozen?, hB0.ri]
  have HB := Lib.hid (hB0.set (k' := k))
  have HA0 := Lib.hid ((heap_setCell_other w1 ⟨W.heap.size + 1, 0, none⟩ _ (Value.int .i64 k) (by simp; omega)).trans hA0)
  have HA1 := Lib.hid ((heap_setCell_other w1 ⟨W.heap.size + 1, 0, none⟩ _ (Value.int .i64 k) (by simp; omega)).trans hA1)
  have HS := Lib.hid (hS0.trans (BX.set (i := 0) w1 (Value.int .i64 k)))
  clear hB0 hA0 hA1 hS0
  go_upto_region 2 with fail
  generalize w1.setCell ⟨W.heap.size + 1, 0, none⟩ (.int .i64 k) = wE at *
  clear hi0 hf0
  have H0 := Lib.hid (⟨Below.refl _ _, _, _, _, _, _, HA1.out⟩ : SN (w.heap.size + 1) wE wE)
  have cW : ∀ w', SN (w.heap.size + 1) wE w' → w'.cell? ⟨bw, 0, none⟩ = some (.func (.func 27) #[] #[]) := fun w' h => ((HB.out.bel.trans (h.bel.mono (by omega))).cell (by simpa using hbw)).trans hw
  have cX : ∀ w', SN (w.heap.size + 1) wE w' → w'.cell? ⟨w.heap.size, 0, none⟩ = some (.bool x.1) ∧ w'.cell? ⟨w.heap.size, 1, none⟩ = some (.int .i64 x.2.1) ∧ w'.cell? ⟨w.heap.size, 2, none⟩ = some (.int .i64 x.2.2.1) ∧ w'.cell? ⟨w.heap.size, 3, none⟩ = some (.int .u64 x.2.2.2.1) ∧ w'.cell? ⟨w.heap.size, 4, none⟩ = some (.int .u64 x.2.2.2.2) := fun w' h => cells5 ((h.bel.block _ (by omega)).trans HA0.out)
  have cM : ∀ w', SN (w.heap.size + 1) wE w' → w'.cell? ⟨W.heap.size, 0, none⟩ = some (.slice (some ⟨b, off, none⟩) ys.length cap) ∧ w'.cell? ⟨W.heap.size + 1, 0, none⟩ = some (.int .i64 k) := fun w' h => by
    have h1 := (h.bel.block W.heap.size (by omega)).trans HB.out.rm
    have h2 := (h.bel.block (W.heap.size + 1) (by omega)).trans HB.out.ri
    simp [World.cell?, h1, h2]
  have cY : ∀ w', SN (w.heap.size + 1) wE w' → w'.cell? ⟨b, off + k * 5, none⟩ = some (.bool ys[k].1) ∧ w'.cell? ⟨b, off + k * 5 + 1, none⟩ = some (.int .i64 ys[k].2.1) ∧ w'.cell? ⟨b, off + k * 5 + 2, none⟩ = some (.int .i64 ys[k].2.2.1) ∧ w'.cell? ⟨b, off + k * 5 + 3, none⟩ = some (.int .u64 ys[k].2.2.2.1) ∧ w'.cell? ⟨b, off + k * 5 + 4, none⟩ = some (.int .u64 ys[k].2.2.2.2) := fun w' h => by
    have key : ∀ o, w'.cell? ⟨b, o, none⟩ = W.cell? ⟨b, o, none⟩ := fun o => (HB.out.bel.trans (h.bel.mono (by omega))).cell (by simpa using hbl)
    exact ⟨(key _).trans c0, (key _).trans c1, (key _).trans c2, (key _).trans c3, (key _).trans c4⟩
  have cT : ∀ w', SN (w.heap.size + 1) wE w' → (w'.cell? ⟨w.heap.size + 1, 0, none⟩ = some (peek w' ⟨w.heap.size + 1, 0, none⟩) ∧ w'.cell? ⟨w.heap.size + 1, 1, none⟩ = some (peek w' ⟨w.heap.size + 1, 1, none⟩) ∧ w'.cell? ⟨w.heap.size + 1, 2, none⟩ = some (peek w' ⟨w.heap.size + 1, 2, none⟩) ∧ w'.cell? ⟨w.heap.size + 1, 3, none⟩ = some (peek w' ⟨w.heap.size + 1, 3, none⟩) ∧ w'.cell? ⟨w.heap.size + 1, 4, none⟩ = some (peek w' ⟨w.heap.size + 1, 4, none⟩)) ∧
    w'.frozen? ⟨w.heap.size + 1, 0, none⟩ = false ∧ w'.frozen? ⟨w.heap.size + 1, 1, none⟩ = false ∧ w'.frozen? ⟨w.heap.size + 1, 2, none⟩ = false ∧ w'.frozen? ⟨w.heap.size + 1, 3, none⟩ = false ∧ w'.frozen? ⟨w.heap.size + 1, 4, none⟩ = false := fun w' h => h.cells
  clear c0 c1 c2 c3 c4
  go_region_held3 (fun w' => SN (w.heap.size + 1) wE w') (first | assumption | exact SN.drew H0.out | exact SN.put (by assumption) _ _ _ _ _)
    (first
      | (go_at_call 27
         have hS := ‹SN (w.heap.size + 1) wE _›
         refine (HOP.out _ (HB.out.bel.trans (hS.bel.mono (by omega))) x ys[k] HX.out (HR.out.raw _ (List.getElem_mem hk))).mono ?_
         rintro e w'' ⟨rfl, hb⟩
         have hS' := hS.below hb
         have hblk := Lib.hid hS'.blk
         clear hS hb))
  have hS := ‹SN (w.heap.size + 1) wE _›
  have hp := put5_blk hblk.out (.bool (op x ys[k]).1) (.int .i64 (op x ys[k]).2.1) (.int .i64 (op x ys[k]).2.2.1) (.int .u64 (op x ys[k]).2.2.2.1) (.int .u64 (op x ys[k]).2.2.2.2)
  have hbl2 := hS.bel
  have hK2 := Lib.hid (HB.out.below2 (by omega) hbl2)
  have hX2 := Lib.hid (HS.out.below (by omega) hbl2)
  unfold put5 at hp
  obtain ⟨p0, p1, p2, p3, p4⟩ := cells5 (x := op x ys[k]) hp
  clear hS hp hbl2 cW cX cM cY cT
  go_wp2
  refine bodyPost_ret (v := nvx (op x ys[k])) ?_ ?_ ?_
  · simp [results, Tryd.results41, go_sem, p0, p1, p2, p3, p4]
  · with_reducible rfl
  · refine ⟨?_, ?_, ?_⟩
    · with_reducible rfl
    · with_reducible exact hK2.out
    · with_reducible exact hX2.out
end Go.Proofs.YtmadebejnhinoaaDoor.V

