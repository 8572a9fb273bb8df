/- InvTurned: the function answers true. Conditions: none. -/
import Derived.Test.YtonpbbhlmapbdaaGreatDoorJ7
import Derived.Lib.Hide
set_option linter.unusedVariables false
set_option linter.unusedSimpArgs false
namespace Go.Proofs.YtonpbbhlmapbdaaGreatDoor.V
open Go Go.Wk Go.RowKit

theorem piece_end {P : Program} {G : Glob} {T : Tab} (C : Cx P G) (hT : TabOK P G T) {d : Nat} {c : Code} {st : St} {fn : Func} {v : Value} {a : Act} {w W0 : World} {base : Nat} {ρ : Nat → Nat}
    (h : ex P G T { merge := true, glue := true } d c st (retK P G fn) = some v) (S : SRel G base ρ st a [] w) (hB : Below base W0 w) : c.wp P (bodyPost P fn fun e w' => e = .returned v ∧ Below base W0 w') a w := by
  refine ex_sound C.mixed C.names hT { merge := true, glue := true } d c st _ v (fun _ => LoopsOK_nil c) h base ρ a [] w _ S ?_
  intro e st' ρ' a' w' hk S' hb
  have go : ∀ (h : (match resE P G fn st' with | some (.val v) => some v | _ => none : Option Value) = some v), a'.defers = [] ∧ ∃ x, (results fn a'.tmps).run P w' = .ok x w' ∧ (Ending.returned x = .returned v ∧ Below base W0 w') := by
    intro h
    refine ⟨S'.df, ?_⟩
    split at h <;> try (simp at h; done)
    rename_i v' hv
    simp only [Option.some.injEq] at h
    subst h
    obtain ⟨x, hx, hxr⟩ := resE_run S' hv
    simp only [SV.rl] at hxr
    exact ⟨x, hx, by rw [hxr], hB.trans hb⟩
  cases e with
  | nrm => exact go hk
  | ret => exact go hk
  | ext i => simp [retK] at hk
theorem unk_rls {ρ : Nat → Nat} : ∀ (n : Nat) (xs : List Value), xs.length = n → SV.rls ρ (List.replicate n .unk) xs
  | 0, [], _ => by simp [SV.rls]
  | n + 1, x :: xs, h => by
    simp only [List.replicate_succ, SV.rls, SV.rl]
    exact ⟨trivial, unk_rls n xs (by simpa using h)⟩
theorem tm_rls {ρ : Nat → Nat} {op bk : Int} {nb : Nat} (hρ : ρ 0 = nb) : ∀ {l : List Value}, l.length = 104 → l[0]? = some (.int .i64 op) → l[3]? = some (.pointer (some ⟨nb, 0, none⟩)) → l[4]? = some (.bool false) → l[5]? = some (.int .i64 bk) → SV.rls ρ (tmT op bk) l
  | x0 :: x1 :: x2 :: x3 :: x4 :: x5 :: r, hs, h0, h3, h4, h5 => by
    simp at h0 h3 h4 h5 hs
    subst h0 h3 h4 h5
    simp only [tmT, List.cons_append, List.nil_append, SV.rls, SV.rl, hρ]
    exact ⟨trivial, trivial, trivial, trivial, trivial, trivial, unk_rls 98 r hs⟩
  | [], hs, _, _, _, _ => by simp at hs
  | [_], hs, _, _, _, _ => by simp at hs
  | [_, _], hs, _, _, _, _ => by simp at hs
  | [_, _, _], hs, _, _, _, _ => by simp at hs
  | [_, _, _, _], hs, _, _, _, _ => by simp at hs
  | [_, _, _, _, _], hs, _, _, _, _ => by simp at hs
theorem gok_below' {w w' : World} (h : GOK G w) (hb : Below w.heap.size w w') : GOK G w' := fun g cs hg => (h g cs hg).below hb (h g cs hg).lt
theorem turned_walk (op : Int) (p0 : Bool) (p1 p2 p3 p4 : Int) (p5 : Bool) (p6 p7 p8 p9 : Int) (p10 : Bool) (p11 p12 p13 p14 v w : Int) (W : World) (h : Raw (p0, p1, p2, p3, p4)) (h' : Raw (p5, p6, p7, p8, p9)) (hv : I64 v) (hw : I64 w) (hG : GOK G W) :
    Calls Tryz.prog 12 #[.int .i64 op, .agg #[.bool p0, .int .i64 p1, .int .i64 p2, .int .u64 p3, .int .u64 p4, .bool p5, .int .i64 p6, .int .i64 p7, .int .u64 p8, .int .u64 p9, .bool p10, .int .i64 p11, .int .i64 p12, .int .u64 p13, .int .u64 p14, .int .i64 v, .int .i64 w]] W fun e w' => e = .returned (.bool true) ∧ Below W.heap.size W w' := by
  have hx := (turned.r op (bkS op) p0 p1 p2 p3 p4 p5 p6 p7 p8 p9 p10 p11 p12 p13 p14 v w).trans (turned.v none (fun q => some (Value.bool q)) h h' hv hw)
  have HX := Lib.hid hx
  clear hx h h' hv hw
  go_enter Tryz.func12, Tryz.ntmps12
  refine wp_seq_k fun K1 hK1 => ?_
  have HK1 := Lib.hid hK1
  clear hK1
  go_wp2
  refine HK1.out _ _ ?_
  clear HK1
  refine wp_seq_k fun K hK => ?_
  refine turned_region (op := op) (nb := W.heap.size) ?_ ?_
  · exact ⟨rfl, rfl, rfl, rfl, rfl, ⟨rfl, rfl, rfl, Nat.le_refl _, fun _ _ => rfl⟩, fun q => by simp at q, fun q => by simp at q, fun q => by simp at q, fun q => by simp at q, fun i q => by simp at q, fun q => by simp at q⟩
  intro a' w' d s t0 t3 t4 t5 hb
  refine hK _ _ ?_
  have hB1 : Below W.heap.size W w' := ((Below.refl W.heap.size W).alloc (Nat.le_refl _) _).trans (hb.mono (Nat.le_of_lt (alloc_lt _ _)))
  have hr := (hb.block _ (alloc_lt _ _)).trans (alloc_row W _)
  have hs2 : W.heap.size ≤ w'.heap.size := hB1.size
  refine piece_end C law_holds.t (base := W.heap.size) (ρ := fun _ => W.heap.size) (c := restT) HX.out ⟨tm_rls rfl (by simpa using s) (by simpa using t0) (by simpa using t3) (by simpa using t4) (by simpa using t5), d, by simp [rlss, stT],
    (rel_of (l := []) (t := #[]) (bs := [(kT p0 p1 p2 p3 p4 p5 p6 p7 p8 p9 p10 p11 p12 p13 p14 v w, 65)]) rfl rfl (gok_below' hG hB1) (fun g cs hg => (hG g cs hg).lt) hs2 ?_ ?_).M⟩ hB1
  · intro i b hi
    match i, hi with
    | 0, hi => simp at hi; subst hi; exact ⟨hr, Nat.le_refl _⟩
    | i + 1, hi => simp at hi
  · intro i j h1 h2 _
    simp at h1 h2
    omega
theorem invTurned.walk (op : Int) (p0 : Bool) (p1 p2 p3 p4 : Int) (p5 : Bool) (p6 p7 p8 p9 : Int) (p10 : Bool) (p11 p12 p13 p14 v w : Int) (W : World) (h0 : (Lit.int .i64 op).wf = true) (h1 : (Lit.int .i64 p1).wf = true) (h2 : (Lit.int .i64 p2).wf = true) (h3 : (Lit.int .u64 p3).wf = true) (h4 : (Lit.int .u64 p4).wf = true) (g1 : (Lit.int .i64 p6).wf = true) (g2 : (Lit.int .i64 p7).wf = true) (g3 : (Lit.int .u64 p8).wf = true) (g4 : (Lit.int .u64 p9).wf = true) (f1 : (Lit.int .i64 p11).wf = true) (f2 : (Lit.int .i64 p12).wf = true) (f3 : (Lit.int .u64 p13).wf = true) (f4 : (Lit.int .u64 p14).wf = true) (h5 : (Lit.int .i64 v).wf = true) (h6 : (Lit.int .i64 w).wf = true) (hG : GOK G W) :
    Calls Tryz.prog 12 #[.int .i64 op, .agg #[.bool p0, .int .i64 p1, .int .i64 p2, .int .u64 p3, .int .u64 p4, .bool p5, .int .i64 p6, .int .i64 p7, .int .u64 p8, .int .u64 p9, .bool p10, .int .i64 p11, .int .i64 p12, .int .u64 p13, .int .u64 p14, .int .i64 v, .int .i64 w]] W fun e w' => e = .returned (.bool true) ∧ Below W.heap.size W w' :=
  turned_walk op p0 p1 p2 p3 p4 p5 p6 p7 p8 p9 p10 p11 p12 p13 p14 v w W (raw5 (i64_wf h1) (i64_wf h2) (u64_wf h3) (u64_wf h4)) (raw5 (i64_wf g1) (i64_wf g2) (u64_wf g3) (u64_wf g4)) (i64_wf h5) (i64_wf h6) hG
end Go.Proofs.YtonpbbhlmapbdaaGreatDoor.V
