/- word.Parse at one text. Conditions: none. -/
import Derived.Test.YtfcgmfefdgcmjaaDoorS0
import Derived.Test.YtfcgmfefdgcmjaaDoorS1
import Derived.Lib.AtoiErrMem
set_option linter.unusedVariables false
set_option linter.unusedSimpArgs false
namespace Go.Proofs.YtfcgmfefdgcmjaaDoor.V
open Go Go.RowKit Go.Wk

theorem parseInt_ok (s : ByteArray) (hmax : s.size ≤ 9223372036854775806) (v : Int) (h : Lib.parseIntB 64 s.data.toList = .ok v) (w : World) :
    Calls Tryd.prog 34 #[.string s, .int .i64 10, .int .i64 64] w fun e w' => e = .returned (.tuple #[.int .i64 v, .nilIface]) ∧ Below w.heap.size w w' := by
  refine (Tryd.strconv_ParseInt_10_at64_ok s hmax v h w).mono ?_
  rintro e w' ⟨rfl, hw⟩
  refine ⟨rfl, ?_⟩
  rcases hw with rfl | ⟨t, rfl⟩
  · exact Below.refl _ _
  · exact Lib.bytesWorld_below _ _ _
set_option maxHeartbeats 4000000 in
set_option maxRecDepth 100000 in
theorem parse_three (s : ByteArray) (v : Int) (hs : s.size = 3) (h45 : (((s[0]'(by omega)).toNat : Int) == 45) = true) (a1 : (48 : Int) ≤ (s[1]'(by omega)).toNat) (b1 : ((s[1]'(by omega)).toNat : Int) ≤ 57)
    (a2 : (48 : Int) ≤ (s[2]'(by omega)).toNat) (b2 : ((s[2]'(by omega)).toNat : Int) ≤ 57) (hp : Lib.parseIntB 64 s.data.toList = .ok v) (w : World) :
    Calls Tryd.prog 7 #[.string s] w fun e w' => e = .returned (.tuple #[.int .i64 v, .int .i64 0, .int .i64 0]) ∧ Below w.heap.size w w' := by
  have hmf : ∀ (fn : Fn) (first cap : Array Value) (w : World), (Instr.makeFunc fn first cap).run Tryd.prog w = .ok (.func fn first cap) w := fun _ _ _ _ => rfl
  have hpc := fun w => parseInt_ok s (by omega) v hp w
  clear hp
  go_enter_defers Tryd.func7, Tryd.ntmps7
  go_wp2
  refine wp_loop_rounds 3 ?_
  rw [rounds_succ]
  go_wp2
  rw [rounds_succ]
  go_wp2
  rw [rounds_succ]
  go_wp2_with (go_at_call 34; refine (hpc _).mono ?_; rintro e W1 ⟨rfl, hW⟩; refine Hid.out ?_)
  have c0 : W1.cell? ⟨w.heap.size, 0, none⟩ = some (.int .i64 0) := (hW.cell (by simp; omega)).trans (by simp [go_sem])
  have c1 : W1.cell? ⟨w.heap.size + 1, 0, none⟩ = some (.int .i64 0) := (hW.cell (by simp)).trans (by simp [go_sem])
  have c2 : W1.cell? ⟨w.heap.size + 1 + 1, 0, none⟩ = some (.int .i64 0) := (hW.cell (by simp)).trans (by simp [go_sem])
  have z0 : W1.frozen? ⟨w.heap.size, 0, none⟩ = false := (hW.frozen (by simp; omega)).trans (by simp [go_sem])
  have z1 : W1.frozen? ⟨w.heap.size + 1, 0, none⟩ = false := (hW.frozen (by simp)).trans (by simp [go_sem])
  have z2 : W1.frozen? ⟨w.heap.size + 1 + 1, 0, none⟩ = false := (hW.frozen (by simp)).trans (by simp [go_sem])
  have hB : Below w.heap.size w W1 := ((((Below.refl _ w).alloc (Nat.le_refl _) _).alloc (by simp) _).alloc (by simp; omega) _).trans (hW.mono (by simp; omega))
  have hZ := Lib.hid hW.size
  have hB1 := Lib.hid hB
  clear hW hB
  have hB := hB1
  clear hB1
  refine Lib.hid ?_
  go_wp2
  refine leaves_cons (f := 33) (args := #[.pointer (some ⟨w.heap.size, 0, none⟩), .pointer (some ⟨w.heap.size + 1, 0, none⟩), .pointer (some ⟨w.heap.size + 1 + 1, 0, none⟩)]) (by simp) (by simp [go_sem]) ?_
  refine (parse1_idle _ _ _ _).mono ?_
  rintro e u' w2 ⟨rfl, rfl, hb⟩
  have hz : w.heap.size + 1 + 1 < W1.heap.size := by have := hZ.out; simp at this; omega
  have f0 : w2.cell? ⟨w.heap.size, 0, none⟩ = some (.int .i64 v) := (hb.cell (by simp [World.setCell]; omega)).trans (by simp [go_sem, c0, c1, c2])
  have f1 : w2.cell? ⟨w.heap.size + 1, 0, none⟩ = some (.int .i64 0) := (hb.cell (by simp [World.setCell]; omega)).trans (by simp [go_sem, c0, c1, c2])
  have f2 : w2.cell? ⟨w.heap.size + 1 + 1, 0, none⟩ = some (.int .i64 0) := (hb.cell (by simp [World.setCell]; omega)).trans (by simp [go_sem, c0, c1, c2])
  have hfin : Below w.heap.size w w2 := (((hB.out.setCell (by simp) _).setCell (by simp) _).setCell (by simp; omega) _).trans (hb.mono (by simp [World.setCell]; omega))
  have hfin := Lib.hid hfin
  simp [Leaves, settle, results, Tryd.results7, go_sem, f0, f1, f2]
  exact hfin.out
end Go.Proofs.YtfcgmfefdgcmjaaDoor.V
