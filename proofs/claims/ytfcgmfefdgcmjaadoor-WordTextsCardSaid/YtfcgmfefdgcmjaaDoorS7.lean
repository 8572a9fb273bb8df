/- word.Parse at any text. Conditions: none. -/
import Derived.Test.YtfcgmfefdgcmjaaDoorS6
set_option linter.unusedVariables false
set_option linter.unusedSimpArgs false
namespace Go.Proofs.YtfcgmfefdgcmjaaDoor.V
open Go Go.RowKit Go.Wk
set_option maxHeartbeats 4000000 in
set_option maxRecDepth 100000 in
theorem parse_neg {s : ByteArray} (hlim : s.size ≤ 140737488355328) (hz : 0 < s.size) (h45 : (((s[0]'(by omega)).toNat : Int) == 45) = true) (hk0 : k0 s.data.toList = 1) {ev : Value} {w : World} (hv : w.cell? ⟨1, 0, none⟩ = some ev) (hev : ev = .nilIface ∨ ∃ te pe, ev = .iface te pe) :
    Calls Tryd.prog 7 #[.string s] w fun e w' => e = .returned (.tuple #[.int .i64 (parseS s.data.toList).1, .int .i64 (parseS s.data.toList).2.1, .int .i64 (parseS s.data.toList).2.2]) ∧ Below w.heap.size w w' := by
  have hmf : ∀ (fn : Fn) (first cap : Array Value) (w : World), (Instr.makeFunc fn first cap).run Tryd.prog w = .ok (.func fn first cap) w := fun _ _ _ _ => rfl
  have hbu : ∀ (a b : Int) (w : World), (Instr.build 43 #[(0, .int .i64 a), (1, .int .i64 b)]).run Tryd.prog w = .ok (.agg #[.int .i64 a, .int .i64 b]) w := fun a b w => by kernel_rfl
  have hmi : ∀ (a b : Int) (w : World), (Instr.makeInterface 43 (.agg #[.int .i64 a, .int .i64 b])).run Tryd.prog w = .ok (.iface 43 (.agg #[.int .i64 a, .int .i64 b])) w := fun a b w => by kernel_rfl
  have hpa : ∀ (a b : Int) (w : World), (Instr.panic (.iface 43 (.agg #[.int .i64 a, .int .i64 b]))).run Tryd.prog w = .halt (.panic (.iface 43 (.agg #[.int .i64 a, .int .i64 b]))) w := fun a b w => rfl
  have hB3 := Lib.hid ((((Below.refl w.heap.size w).alloc (Nat.le_refl _) (.cells #[.int .i64 0] 2)).alloc (by simp) (.cells #[.int .i64 0] 22)).alloc (by simp; omega) (.cells #[.int .i64 0] 3))
  have hpc := Lib.hid (fun (W : World) (hb : Below w.heap.size w W) (h0 : 1 < s.size) (h : ∀ j, (hj : j < s.size) → 1 ≤ j → isD s[j] = true) => parseInt_two (s := s) (w := W) hlim (by rw [hk0]; exact h0) (fun j hj hq => h j hj (by rw [hk0] at hq; exact hq)) ((hb.cell (p := ⟨1, 0, none⟩) (World.block_lt_of_cell? _ _ hv)).trans hv) hev)
  have HK := Lib.hid hk0
  clear hk0 hv hev
  go_enter_defers Tryd.func7, Tryd.ntmps7
  go_wp2
  go_loop [5] (fun i => ∃ k : Nat, i = .int .i64 k ∧ 1 ≤ k ∧ k ≤ s.size ∧ ∀ j, (h : j < s.size) → 1 ≤ j → j < k → isD s[j] = true) (fun i => s.size - (intOf i).toNat)
  case atStart => exact ⟨1, rfl, by omega, by omega, fun j h h1 h2 => by omega⟩
  case round =>
    obtain ⟨k, rfl, hk1, hks, hdg⟩ := hrel
    have HD := Lib.hid hdg
    clear hdg
    go_wp2_with (go_at_call 34; refine (hpc.out _ hB3.out (by clear hmf hbu hmi hpa; first | omega | grind) (fun j h h1 => HD.out j h h1 (by omega))).mono ?_; rintro e W1 ⟨hB, ⟨v, rfl, hP⟩ | ⟨a, M, rfl, hP⟩⟩ <;> refine Hid.out ?_)
    · have hP : parseS s.data.toList = (0, 10, (k : Int)) := parse_no (k := k) (by rw [HK.out]; exact hk1) hks (fun j hj h1 h2 => HD.out j hj (by rw [HK.out] at h1; exact h1) h2) (fun hk => notD (by assumption)) (.inl (by assumption))
      rw [hP]
      exact door_caught _ 10 _ hB3.out (alloc3_rows w _ _ _).2.2.2 rfl rfl rfl (alloc3_rows w _ _ _).1 (alloc3_rows w _ _ _).2.1 (alloc3_rows w _ _ _).2.2.1
    · refine ⟨⟨k + 1, by simp, by omega, by omega, fun j h h1 h2 => ?_⟩, by simp [intOf]; omega⟩
      rcases Nat.lt_or_ge j k with q | q
      · exact HD.out j h h1 q
      · obtain rfl : j = k := by omega
        exact yesD (by assumption) (by have hx : (48 : Int) ≤ s[j].toNat ∧ (s[j].toNat : Int) ≤ 57 := by assumption
                                       exact hx.2)
    · have hP : parseS s.data.toList = (0, 10, (k : Int)) := parse_no (k := k) (by rw [HK.out]; exact hk1) hks (fun j hj h1 h2 => HD.out j hj (by rw [HK.out] at h1; exact h1) h2) (fun hk => notD (.inl (by assumption))) (.inl (by assumption))
      rw [hP]
      exact door_caught _ 10 _ hB3.out (alloc3_rows w _ _ _).2.2.2 rfl rfl rfl (alloc3_rows w _ _ _).1 (alloc3_rows w _ _ _).2.1 (alloc3_rows w _ _ _).2.2.1
    · have hq : (k : Int) = 1 := by
        have hx : ((k : Int) == 1) = true := by assumption
        simpa using hx
      have hP : parseS s.data.toList = (0, 10, (k : Int)) := parse_no (k := k) (by rw [HK.out]; exact hk1) hks (fun j hj h1 h2 => HD.out j hj (by rw [HK.out] at h1; exact h1) h2) (fun hk => absurd hk (by assumption)) (.inr (by rw [HK.out]; omega))
      rw [hP]
      exact door_caught _ 10 _ hB3.out (alloc3_rows w _ _ _).2.2.2 rfl rfl rfl (alloc3_rows w _ _ _).1 (alloc3_rows w _ _ _).2.1 (alloc3_rows w _ _ _).2.2.1
    · have HP := Lib.hid hP
      clear hP
      obtain ⟨a1, a2, a3, a4⟩ := alloc3_rows w (.cells #[.int .i64 0] 2) (.cells #[.int .i64 0] 22) (.cells #[.int .i64 0] 3)
      have HB := Lib.hid (hB3.out.trans (hB.mono (by omega)))
      have HZ := Lib.hid (Nat.lt_of_lt_of_le a4 hB.size)
      have r1 := (hB.block _ (by omega)).trans a1
      have r2 := (hB.block _ (by omega)).trans a2
      have r3 := (hB.block _ (by omega)).trans a3
      have H1 := Lib.hid r1
      have H2 := Lib.hid r2
      have H3 := Lib.hid r3
      have c0 : W1.cell? ⟨w.heap.size, 0, none⟩ = some (.int .i64 0) := by simp [World.cell?, r1]
      have c1 : W1.cell? ⟨w.heap.size + 1, 0, none⟩ = some (.int .i64 0) := by simp [World.cell?, r2]
      have c2 : W1.cell? ⟨w.heap.size + 1 + 1, 0, none⟩ = some (.int .i64 0) := by simp [World.cell?, r3]
      have z0 : W1.frozen? ⟨w.heap.size, 0, none⟩ = false := by simp [World.frozen?, r1]
      have z1 : W1.frozen? ⟨w.heap.size + 1, 0, none⟩ = false := by simp [World.frozen?, r2]
      have z2 : W1.frozen? ⟨w.heap.size + 1 + 1, 0, none⟩ = false := by simp [World.frozen?, r3]
      clear a1 a2 a3 a4 r1 r2 r3 hB
      refine Lib.hid ?_
      go_wp2
      rw [HP.out]
      have hz := HZ.out
      exact door_idle _ v (((HB.out.setCell (by simp) _).setCell (by simp) _).setCell (by simp; omega) _) (by simp [World.setCell]; omega) rfl rfl rfl (by simp [go_sem, c0, c1, c2]) (by simp [go_sem, c0, c1, c2]) (by simp [go_sem, c0, c1, c2])
    · have HP := Lib.hid hP
      clear hP
      obtain ⟨a1, a2, a3, a4⟩ := alloc3_rows w (.cells #[.int .i64 0] 2) (.cells #[.int .i64 0] 22) (.cells #[.int .i64 0] 3)
      have HB := Lib.hid (hB3.out.trans (hB.mono (by omega)))
      have HZ := Lib.hid (Nat.lt_of_lt_of_le a4 hB.size)
      have r1 := (hB.block _ (by omega)).trans a1
      have r2 := (hB.block _ (by omega)).trans a2
      have r3 := (hB.block _ (by omega)).trans a3
      have H1 := Lib.hid r1
      have H2 := Lib.hid r2
      have H3 := Lib.hid r3
      have c0 : W1.cell? ⟨w.heap.size, 0, none⟩ = some (.int .i64 0) := by simp [World.cell?, r1]
      have c1 : W1.cell? ⟨w.heap.size + 1, 0, none⟩ = some (.int .i64 0) := by simp [World.cell?, r2]
      have c2 : W1.cell? ⟨w.heap.size + 1 + 1, 0, none⟩ = some (.int .i64 0) := by simp [World.cell?, r3]
      have z0 : W1.frozen? ⟨w.heap.size, 0, none⟩ = false := by simp [World.frozen?, r1]
      have z1 : W1.frozen? ⟨w.heap.size + 1, 0, none⟩ = false := by simp [World.frozen?, r2]
      have z2 : W1.frozen? ⟨w.heap.size + 1 + 1, 0, none⟩ = false := by simp [World.frozen?, r3]
      clear a1 a2 a3 a4 r1 r2 r3 hB
      refine Lib.hid ?_
      go_wp2
      rw [HP.out]
      exact door_caught _ 11 0 HB.out HZ.out rfl rfl rfl H1.out H2.out H3.out
set_option maxHeartbeats 4000000 in
set_option maxRecDepth 100000 in
theorem parse_pos {s : ByteArray} (hlim : s.size ≤ 140737488355328) (hz : 0 < s.size) (h45 : (((s[0]'(by omega)).toNat : Int) == 45) = false) (hk0 : k0 s.data.toList = 0) {ev : Value} {w : World} (hv : w.cell? ⟨1, 0, none⟩ = some ev) (hev : ev = .nilIface ∨ ∃ te pe, ev = .iface te pe) :
    Calls Tryd.prog 7 #[.string s] w fun e w' => e = .returned (.tuple #[.int .i64 (parseS s.data.toList).1, .int .i64 (parseS s.data.toList).2.1, .int .i64 (parseS s.data.toList).2.2]) ∧ Below w.heap.size w w' := by
  have hmf : ∀ (fn : Fn) (first cap : Array Value) (w : World), (Instr.makeFunc fn first cap).run Tryd.prog w = .ok (.func fn first cap) w := fun _ _ _ _ => rfl
  have hbu : ∀ (a b : Int) (w : World), (Instr.build 43 #[(0, .int .i64 a), (1, .int .i64 b)]).run Tryd.prog w = .ok (.agg #[.int .i64 a, .int .i64 b]) w := fun a b w => by kernel_rfl
  have hmi : ∀ (a b : Int) (w : World), (Instr.makeInterface 43 (.agg #[.int .i64 a, .int .i64 b])).run Tryd.prog w = .ok (.iface 43 (.agg #[.int .i64 a, .int .i64 b])) w := fun a b w => by kernel_rfl
  have hpa : ∀ (a b : Int) (w : World), (Instr.panic (.iface 43 (.agg #[.int .i64 a, .int .i64 b]))).run Tryd.prog w = .halt (.panic (.iface 43 (.agg #[.int .i64 a, .int .i64 b]))) w := fun a b w => rfl
  have hB3 := Lib.hid ((((Below.refl w.heap.size w).alloc (Nat.le_refl _) (.cells #[.int .i64 0] 2)).alloc (by simp) (.cells #[.int .i64 0] 22)).alloc (by simp; omega) (.cells #[.int .i64 0] 3))
  have hpc := Lib.hid (fun (W : World) (hb : Below w.heap.size w W) (h0 : 0 < s.size) (h : ∀ j, (hj : j < s.size) → 0 ≤ j → isD s[j] = true) => parseInt_two (s := s) (w := W) hlim (by rw [hk0]; exact h0) (fun j hj hq => h j hj (by rw [hk0] at hq; exact hq)) ((hb.cell (p := ⟨1, 0, none⟩) (World.block_lt_of_cell? _ _ hv)).trans hv) hev)
  have HK := Lib.hid hk0
  clear hk0 hv hev
  go_enter_defers Tryd.func7, Tryd.ntmps7
  go_wp2
  go_loop [5] (fun i => ∃ k : Nat, i = .int .i64 k ∧ 0 ≤ k ∧ k ≤ s.size ∧ ∀ j, (h : j < s.size) → 0 ≤ j → j < k → isD s[j] = true) (fun i => s.size - (intOf i).toNat)
  case atStart => exact ⟨0, rfl, by omega, by omega, fun j h h1 h2 => by omega⟩
  case round =>
    obtain ⟨k, rfl, hk1, hks, hdg⟩ := hrel
    have HD := Lib.hid hdg
    clear hdg
    go_wp2_with (go_at_call 34; refine (hpc.out _ hB3.out (by clear hmf hbu hmi hpa; first | omega | grind) (fun j h h1 => HD.out j h h1 (by omega))).mono ?_; rintro e W1 ⟨hB, ⟨v, rfl, hP⟩ | ⟨a, M, rfl, hP⟩⟩ <;> refine Hid.out ?_)
    · have hP : parseS s.data.toList = (0, 10, (k : Int)) := parse_no (k := k) (by rw [HK.out]; exact hk1) hks (fun j hj h1 h2 => HD.out j hj (by rw [HK.out] at h1; exact h1) h2) (fun hk => notD (by assumption)) (.inl (by assumption))
      rw [hP]
      exact door_caught _ 10 _ hB3.out (alloc3_rows w _ _ _).2.2.2 rfl rfl rfl (alloc3_rows w _ _ _).1 (alloc3_rows w _ _ _).2.1 (alloc3_rows w _ _ _).2.2.1
    · refine ⟨⟨k + 1, by simp, by omega, by omega, fun j h h1 h2 => ?_⟩, by simp [intOf]; omega⟩
      rcases Nat.lt_or_ge j k with q | q
      · exact HD.out j h h1 q
      · obtain rfl : j = k := by omega
        exact yesD (by assumption) (by have hx : (48 : Int) ≤ s[j].toNat ∧ (s[j].toNat : Int) ≤ 57 := by assumption
                                       exact hx.2)
    · have hP : parseS s.data.toList = (0, 10, (k : Int)) := parse_no (k := k) (by rw [HK.out]; exact hk1) hks (fun j hj h1 h2 => HD.out j hj (by rw [HK.out] at h1; exact h1) h2) (fun hk => notD (.inl (by assumption))) (.inl (by assumption))
      rw [hP]
      exact door_caught _ 10 _ hB3.out (alloc3_rows w _ _ _).2.2.2 rfl rfl rfl (alloc3_rows w _ _ _).1 (alloc3_rows w _ _ _).2.1 (alloc3_rows w _ _ _).2.2.1
    · have HP := Lib.hid hP
      clear hP
      obtain ⟨a1, a2, a3, a4⟩ := alloc3_rows w (.cells #[.int .i64 0] 2) (.cells #[.int .i64 0] 22) (.cells #[.int .i64 0] 3)
      have HB := Lib.hid (hB3.out.trans (hB.mono (by omega)))
      have HZ := Lib.hid (Nat.lt_of_lt_of_le a4 hB.size)
      have r1 := (hB.block _ (by omega)).trans a1
      have r2 := (hB.block _ (by omega)).trans a2
      have r3 := (hB.block _ (by omega)).trans a3
      have H1 := Lib.hid r1
      have H2 := Lib.hid r2
      have H3 := Lib.hid r3
      have c0 : W1.cell? ⟨w.heap.size, 0, none⟩ = some (.int .i64 0) := by simp [World.cell?, r1]
      have c1 : W1.cell? ⟨w.heap.size + 1, 0, none⟩ = some (.int .i64 0) := by simp [World.cell?, r2]
      have c2 : W1.cell? ⟨w.heap.size + 1 + 1, 0, none⟩ = some (.int .i64 0) := by simp [World.cell?, r3]
      have z0 : W1.frozen? ⟨w.heap.size, 0, none⟩ = false := by simp [World.frozen?, r1]
      have z1 : W1.frozen? ⟨w.heap.size + 1, 0, none⟩ = false := by simp [World.frozen?, r2]
      have z2 : W1.frozen? ⟨w.heap.size + 1 + 1, 0, none⟩ = false := by simp [World.frozen?, r3]
      clear a1 a2 a3 a4 r1 r2 r3 hB
      refine Lib.hid ?_
      go_wp2
      rw [HP.out]
      have hz := HZ.out
      exact door_idle _ v (((HB.out.setCell (by simp) _).setCell (by simp) _).setCell (by simp; omega) _) (by simp [World.setCell]; omega) rfl rfl rfl (by simp [go_sem, c0, c1, c2]) (by simp [go_sem, c0, c1, c2]) (by simp [go_sem, c0, c1, c2])
    · have HP := Lib.hid hP
      clear hP
      obtain ⟨a1, a2, a3, a4⟩ := alloc3_rows w (.cells #[.int .i64 0] 2) (.cells #[.int .i64 0] 22) (.cells #[.int .i64 0] 3)
      have HB := Lib.hid (hB3.out.trans (hB.mono (by omega)))
      have HZ := Lib.hid (Nat.lt_of_lt_of_le a4 hB.size)
      have r1 := (hB.block _ (by omega)).trans a1
      have r2 := (hB.block _ (by omega)).trans a2
      have r3 := (hB.block _ (by omega)).trans a3
      have H1 := Lib.hid r1
      have H2 := Lib.hid r2
      have H3 := Lib.hid r3
      have c0 : W1.cell? ⟨w.heap.size, 0, none⟩ = some (.int .i64 0) := by simp [World.cell?, r1]
      have c1 : W1.cell? ⟨w.heap.size + 1, 0, none⟩ = some (.int .i64 0) := by simp [World.cell?, r2]
      have c2 : W1.cell? ⟨w.heap.size + 1 + 1, 0, none⟩ = some (.int .i64 0) := by simp [World.cell?, r3]
      have z0 : W1.frozen? ⟨w.heap.size, 0, none⟩ = false := by simp [World.frozen?, r1]
      have z1 : W1.frozen? ⟨w.heap.size + 1, 0, none⟩ = false := by simp [World.frozen?, r2]
      have z2 : W1.frozen? ⟨w.heap.size + 1 + 1, 0, none⟩ = false := by simp [World.frozen?, r3]
      clear a1 a2 a3 a4 r1 r2 r3 hB
      refine Lib.hid ?_
      go_wp2
      rw [HP.out]
      exact door_caught _ 11 0 HB.out HZ.out rfl rfl rfl H1.out H2.out H3.out
set_option maxHeartbeats 4000000 in
set_option maxRecDepth 100000 in
theorem parse_none {s : ByteArray} (hz : s.size = 0) (w : World) :
    Calls Tryd.prog 7 #[.string s] w fun e w' => e = .returned (.tuple #[.int .i64 (parseS s.data.toList).1, .int .i64 (parseS s.data.toList).2.1, .int .i64 (parseS s.data.toList).2.2]) ∧ Below w.heap.size w w' := by
  have hmf : ∀ (fn : Fn) (first cap : Array Value) (w : World), (Instr.makeFunc fn first cap).run Tryd.prog w = .ok (.func fn first cap) w := fun _ _ _ _ => rfl
  have hbu : ∀ (a b : Int) (w : World), (Instr.build 43 #[(0, .int .i64 a), (1, .int .i64 b)]).run Tryd.prog w = .ok (.agg #[.int .i64 a, .int .i64 b]) w := fun a b w => by kernel_rfl
  have hmi : ∀ (a b : Int) (w : World), (Instr.makeInterface 43 (.agg #[.int .i64 a, .int .i64 b])).run Tryd.prog w = .ok (.iface 43 (.agg #[.int .i64 a, .int .i64 b])) w := fun a b w => by kernel_rfl
  have hpa : ∀ (a b : Int) (w : World), (Instr.panic (.iface 43 (.agg #[.int .i64 a, .int .i64 b]))).run Tryd.prog w = .halt (.panic (.iface 43 (.agg #[.int .i64 a, .int .i64 b]))) w := fun a b w => rfl
  have hB3 := Lib.hid ((((Below.refl w.heap.size w).alloc (Nat.le_refl _) (.cells #[.int .i64 0] 2)).alloc (by simp) (.cells #[.int .i64 0] 22)).alloc (by simp; omega) (.cells #[.int .i64 0] 3))
  have hP : parseS s.data.toList = (0, 10, 0) := by
    have : s.data.toList = [] := List.length_eq_zero_iff.1 (by rw [len_s]; exact hz)
    rw [this]; decide
  have HP := Lib.hid hP
  clear hP
  go_enter_defers Tryd.func7, Tryd.ntmps7
  go_wp2
  refine wp_loop_rounds 1 ?_
  rw [rounds_succ]
  go_wp2
  rw [HP.out]
  exact door_caught _ 10 0 hB3.out (alloc3_rows w _ _ _).2.2.2 rfl rfl rfl (alloc3_rows w _ _ _).1 (alloc3_rows w _ _ _).2.1 (alloc3_rows w _ _ _).2.2.1
theorem isNeg_at : ∀ (l : List UInt8) (h : 0 < l.length), isNeg l = Nat.beq (l[0]'h).toNat 45
  | [], h => absurd h (by simp)
  | c :: r, _ => rfl
theorem parse_any {s : ByteArray} (hlim : s.size ≤ 140737488355328) {ev : Value} {w : World} (hv : w.cell? ⟨1, 0, none⟩ = some ev) (hev : ev = .nilIface ∨ ∃ te pe, ev = .iface te pe) :
    Calls Tryd.prog 7 #[.string s] w fun e w' => e = .returned (.tuple #[.int .i64 (parseS s.data.toList).1, .int .i64 (parseS s.data.toList).2.1, .int .i64 (parseS s.data.toList).2.2]) ∧ Below w.heap.size w w' := by
  by_cases hz : s.size = 0
  · exact parse_none hz w
  · have h0 : 0 < s.size := by omega
    have e0 : s.data.toList[0]'(by rw [len_s]; exact h0) = s[0] := byte_at s 0 h0
    have hn : isNeg s.data.toList = Nat.beq s[0].toNat 45 := by
      rw [← e0]
      exact isNeg_at _ _
    by_cases h : s[0].toNat = 45
    · exact parse_neg hlim h0 (by rw [h]; rfl) (by unfold k0; rw [hn, h]; rfl) hv hev
    · have hb : Nat.beq s[0].toNat 45 = false := by
        cases hq : Nat.beq s[0].toNat 45 with
        | false => rfl
        | true => exact absurd (Nat.eq_of_beq_eq_true hq) h
      exact parse_pos hlim h0 (by simp; omega) (by unfold k0; rw [hn, hb]; rfl) hv hev
end Go.Proofs.YtfcgmfefdgcmjaaDoor.V
