/- IvalHulls: an interval's numbers as a list. Conditions: none. -/
import Derived.Test.YtbbplkdjcgdaaaaDoorN14
import Derived.WalkKit
import Derived.Lib.Hide
import Derived.OwnWalk
import Derived.Below
set_option linter.unusedVariables false
set_option linter.unusedSimpArgs false
namespace Go.Proofs.YtbbplkdjcgdaaaaDoor.V
open Go Go.Wk Go.RowKit

theorem allocB (w : World) (o : Obj) : Below w.heap.size w (w.alloc o) := (Below.refl _ _).alloc (Nat.le_refl _) o
theorem allocR (w : World) (o : Obj) : (w.alloc o).heap[w.heap.size]? = some o := heap_alloc_new w o
theorem allocL (w : World) (o : Obj) : w.heap.size < (w.alloc o).heap.size := by simp
theorem grown_keep {w w' : World} {row : Option Nat} {n : Nat} (h : w.grownBy w' row) (hn : n ≤ w.heap.size) (hr : ∀ k, row = some k → n ≤ k) : Below n w w' :=
  ⟨h.os, h.tape, h.output, h.size, fun k hk => h.block k (by omega) (fun e => by have := hr k e.symm; omega)⟩
theorem own_below {w w' : World} {base : Nat} {e : TypeId} {size : Nat} {v : Value} {n : Nat} {xs : List Value} (h : w.ownsRow base e size v n xs) (hb : Below w.heap.size w w') : w'.ownsRow base e size v n xs :=
  ⟨h.1, by
    rcases h.2 with h' | ⟨g, cap, cur, hv, hb', hg, rest⟩
    · exact .inl h'
    · exact .inr ⟨g, cap, cur, hv, hb', (hb.block g (Array.getElem?_eq_some_iff.1 hg).1).trans hg, rest⟩⟩
theorem cells2 {w : World} {b : Nat} {x y : Int} (h : w.heap[b]? = some (.cells #[.int .i64 x, .int .i64 y] 23 (0, 0))) : w.cell? ⟨b, 0, none⟩ = some (.int .i64 x) ∧ w.cell? ⟨b, 1, none⟩ = some (.int .i64 y) ∧ w.frozen? ⟨b, 0, none⟩ = false ∧ w.frozen? ⟨b, 1, none⟩ = false := by
  refine ⟨?_, ?_, ?_, ?_⟩ <;> simp [World.cell?, World.frozen?, h]
theorem info2 : (P.info? 2).map (fun i => (i.zero, i.size, i.bytes)) = some (some (.int .i64 0), 1, 8) := by kernel_rfl
theorem info_parts {t : TypeId} {z : Value} {s b : Nat} (h : (P.info? t).map (fun i => (i.zero, i.size, i.bytes)) = some (some z, s, b)) : ∃ i, P.info? t = some i ∧ i.zero = some z ∧ i.size = s ∧ i.bytes = b := by
  cases hi : P.info? t with
  | none => rw [hi] at h; simp at h
  | some i => rw [hi] at h; simp only [Option.map_some, Option.some.injEq, Prod.mk.injEq] at h; exact ⟨i, rfl, h.1, h.2.1, h.2.2⟩
def nums (lo : Int) (n : Nat) : List Value := (List.range n).map fun i => .int .i64 (lo + (i : Nat))
theorem nums_succ (lo : Int) (k : Nat) : nums lo k ++ [.int .i64 (lo + (k : Nat))] = nums lo (k + 1) := by simp [nums, List.range_succ]
theorem nums_at (lo : Int) {n i : Nat} (h : i < n) : (nums lo n)[i]? = some (.int .i64 (lo + (i : Nat))) := by simp [nums, h]
structure LS (w wx : World) (lo hi : Int) (o : Value) (k : Nat) : Prop where
  bel : Below w.heap.size w wx
  lt : w.heap.size < wx.heap.size
  box : wx.heap[w.heap.size]? = some (.cells #[.int .i64 lo, .int .i64 hi] 23 (0, 0))
  own : wx.ownsRow (w.heap.size + 1) 2 1 o k (nums lo k)
def Listed (w : World) (lo : Int) (n : Nat) (e : Ending) (w' : World) : Prop := ∃ v, e = .returned v ∧ Below w.heap.size w w' ∧ w'.ownsRow (w.heap.size + 1) 2 1 v n (nums lo n)
set_option maxRecDepth 100000 in
set_option maxHeartbeats 2000000 in
theorem list_walk (w : World) {lo hi : Int} (n : Nat) (h1 : I64 lo) (h2 : I64 hi) (hn : hi = lo + n) (h6 : n ≤ 6) : Calls P 33 #[.agg #[.int .i64 lo, .int .i64 hi]] w (Listed w lo (n + 1)) := by
  unfold I64 at h1 h2
  have HN := Lib.hid hn
  clear hn
  obtain ⟨i0, hi0, hz0, hz1, hz2⟩ := info_parts info2
  have HL := Lib.hid (⟨allocB _ _, allocL _ _, allocR _ _, World.ownsRow_nil _ _ _ _⟩ : LS w (w.alloc (.cells #[.int .i64 lo, .int .i64 hi] 23)) lo hi (.slice none 0 0) 0)
  go_enter Tryd.func33, Tryd.ntmps33
  go_wp2
  go_loopw [3, 4] (fun o v wx => ∃ k : Nat, k ≤ n ∧ v = .int .i64 (lo + (k : Nat)) ∧ LS w wx lo hi o k) (fun _ v _ => (hi - intOf v).toNat)
  case atStart => exact ⟨0, Nat.zero_le _, by simp, HL.out⟩
  case round =>
    obtain ⟨k, hk, rfl, hL⟩ := hrel
    have HR := Lib.hid hL
    clear hL HL
    obtain ⟨c0, c1, f0, f1⟩ := cells2 HR.out.box
    clear f0 f1
    have hlt := HR.out.lt
    go_wp2_with (at_builtin; refine wpList_append_own _ rfl (.tmp 9) (.tmp 11) 24 rfl (w.heap.size + 1) 2 i0 (.int .i64 0) 1 8 Tryd.underlying24 hi0 hz0 hz1 hz2 rfl (by decide) _ k (nums lo k) rfl (HR.out.own.alloc _) ⟨_, 0, none⟩ 1 1 [.int .i64 (lo + (k : Nat))] rfl rfl ?d2 (fun u hu => by simp at hu; subst hu; rfl) (by have : maxLen = 9223372036854775807 := rfl; omega) (by omega) ?d6 ?_)
    case d2 =>
      intro j u hj
      match j, hj with
      | 0, hj => simp at hj; subst hj; simp [Addr.add]
    case d6 => simp; omega
    intro v' w3 o2 g2 _
    have o3 : w3.ownsRow (w.heap.size + 1) 2 1 v' (k + 1) (nums lo (k + 1)) := by rw [← nums_succ]; exact o2
    have hb3 : Below (w.heap.size + 1) wr w3 := ((allocB wr (.cells #[.int .i64 (lo + (k : Nat))] 2)).mono (by omega)).trans (grown_keep g2 (by simp; omega) (fun g hg => (HR.out.own.lt g hg).1))
    have HS := Lib.hid (⟨HR.out.bel.trans (hb3.mono (by omega)), Nat.lt_of_lt_of_le hlt hb3.size, (hb3.block _ (by omega)).trans HR.out.box, o3⟩ : LS w w3 lo hi v' (k + 1))
    clear o2 g2 o3 hb3 c0 c1 HR
    obtain ⟨c0, c1, f0, f1⟩ := cells2 HS.out.box
    clear f0 f1
    by_cases he : k = n
    · have e1 : lo + (k : Nat) = hi := by have := HN.out; omega
      have e2 : (lo + (k : Nat) == hi) = true := by simpa using e1
      clear e1
      go_wp2
      go_ret
      exact ⟨v', rfl, HS.out.bel, by have := HS.out.own; rwa [he] at this⟩
    · have e1 : ¬ lo + (k : Nat) = hi := by have := HN.out; omega
      have e2 : (lo + (k : Nat) == hi) = false := by simpa using e1
      clear e1
      have e3 : lo + (k : Nat) + 1 ≤ 9223372036854775807 := by have := HN.out; omega
      have e4 : -9223372036854775808 ≤ lo + (k : Nat) + 1 := by have := HN.out; omega
      go_wp2
      exact ⟨⟨k + 1, by omega, congrArg (Value.int .i64) (by omega), HS.out⟩, by have := HN.out; simp [intOf]; omega⟩
end Go.Proofs.YtbbplkdjcgdaaaaDoor.V
