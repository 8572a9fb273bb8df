/- Arguments that are data of small bulk, opened: what a reading finds in memory is a datum whose lists are short. Conditions: none. -/
import Derived.Test.YtmadebejnhinoaaDoorWkO
import Derived.Test.YtmadebejnhinoaaDoorRows
set_option autoImplicit false
set_option linter.unusedVariables false
set_option linter.unusedSimpArgs false
namespace Go.Proofs.YtmadebejnhinoaaDoor.V
noncomputable section
open Go Go.Wk Go.RowKit
def bulkN : Nat := 1048576
theorem bulk_all {H : Type} : ∀ {l : List (DataW H)} {x : DataW H}, Rows.uptoBulkAll l ≤ bulkN → x ∈ l → Rows.uptoBulk x ≤ bulkN
  | a :: l, x, h, hx => by
    simp only [Rows.uptoBulkAll] at h
    rcases List.mem_cons.1 hx with rfl | hx
    · omega
    · exact bulk_all (by omega) hx
theorem bulk_one {H : Type} (d : DataW H) : 1 ≤ Rows.uptoBulk d := by
  cases d with
  | lit l => cases l <;> simp [Rows.uptoBulk]
  | nil => simp [Rows.uptoBulk]
  | ptr d => simp [Rows.uptoBulk]
  | slice elems spare => simp [Rows.uptoBulk]
  | agg parts => simp [Rows.uptoBulk]
  | iface t d => simp [Rows.uptoBulk]
  | map entries => simp [Rows.uptoBulk]
  | held h => simp [Rows.uptoBulk]
theorem bulk_len {H : Type} (l : List (DataW H)) : l.length ≤ Rows.uptoBulkAll l := by
  induction l with
  | nil => simp [Rows.uptoBulkAll]
  | cons x r ih => have := bulk_one x; simp only [Rows.uptoBulkAll, List.length_cons]; omega
/-- a datum that a reading can have: numbers in range, lists that a memory holds -/
def wfD_u (B : Cd → Nat) : (c : Cd) → c.T → Prop
  | .int k, (n : Int) => (Lit.int k n).wf = true
  | .bool, _ => True
  | .str, (s : ByteArray) => s.size ≤ bulkN
  | .list c, (xs : List c.T) => xs.length ≤ bulkN ∧ ∀ x ∈ xs, wfD_u B c x
  | .pair a b, p => wfD_u B a p.1 ∧ wfD_u B b p.2
def RL_u (f : Fz) (B : Cd → Nat) : List Cd → List Value → Prop
  | [], vs => vs = []
  | c :: r, vs => ∃ (us ws : List Value) (y : c.T), vs = us ++ ws ∧ rc f c y us ∧ wfD_u B c y ∧ RL_u f B r ws
theorem RL_append_u {f : Fz} {B : Cd → Nat} : ∀ {l m : List Cd} {us ws : List Value}, RL_u f B l us → RL_u f B m ws → RL_u f B (l ++ m) (us ++ ws)
  | [], m, us, ws, h, h' => by simp only [RL_u] at h; subst h; simpa using h'
  | c :: l, m, us, ws, h, h' => by
    simp only [RL_u] at h
    obtain ⟨a, b, y, rfl, h1, h2, h3⟩ := h
    simp only [List.cons_append, RL_u]
    exact ⟨a, b ++ ws, y, by simp, h1, h2, RL_append_u h3 h'⟩
theorem mkP_rl_u {f : Fz} {B : Cd → Nat} : ∀ {l : List Cd} {c : Cd} {vs : List Value}, mkP l = some c → RL_u f B l vs → ∃ y : c.T, rc f c y vs ∧ wfD_u B c y
  | [], c, vs, h, _ => by simp [mkP] at h
  | [a], c, vs, h, hr => by
    simp only [mkP, Option.some.injEq] at h
    subst h
    simp only [RL_u] at hr
    obtain ⟨us, ws, y, rfl, h1, h2, rfl⟩ := hr
    exact ⟨y, by simpa using h1, h2⟩
  | a :: b :: r, c, vs, h, hr => by
    simp only [mkP] at h
    split at h <;> simp only [Option.some.injEq, reduceCtorEq] at h
    rename_i d hd
    subst h
    simp only [RL_u] at hr
    obtain ⟨us, ws, y, rfl, h1, h2, h3⟩ := hr
    obtain ⟨z, h4, h5⟩ := mkP_rl_u (l := b :: r) hd (by simpa only [RL_u] using h3)
    exact ⟨(y, z), by simp only [rc]; exact ⟨us, ws, rfl, h1, h4⟩, h2, h5⟩
section
variable {H : Type} {enc : TypeId × Value → H} {P : Program} {w : World} {base : Nat} {spare : Nat → Bool} {held : Bool} {B : Cd → Nat}
def GoodAt_u (H : Type) (enc : TypeId × Value → H) (P : Program) (w : World) (base : Nat) (spare : Nat → Bool) (held : Bool) (B : Cd → Nat) (d : Nat) : Prop :=
  ∀ (t : TypeId) (ls : List Cd), cdLs P d t = some ls → fineT P B d t = true → ∀ (fuel : Nat) (cs : List Value) (x : DataW H × List MemPlace), DataW.trod enc P w base spare held fuel t cs = some x → Rows.uptoBulk x.1 ≤ bulkN → cs.length = P.cellsOf t ∧ RL_u (lies w) B ls cs
theorem trod_fs_u {d n : Nat} (ih : GoodAt_u H enc P w base spare held B d) {cs : List Value} {total : Nat} (hc : cs.length = total) : ∀ (fs : List Field) (off : Nat) (ls : List Cd) (xs : List (DataW H × List MemPlace)), cdFs (cdLs P d) fs = some ls → fineFs (fineT P B d) P total off fs = true →
    (∀ (i : Nat) (f : Field), fs[i]? = some f → DataW.trod enc P w base spare held n f.type ((cs.drop f.offset).take (P.cellsOf f.type)) = xs[i]?) → xs.length = fs.length → Rows.uptoBulkAll (xs.map (·.1)) ≤ bulkN → RL_u (lies w) B ls (cs.drop off)
  | [], off, ls, xs, hk, hf, _, _, _ => by
    simp only [cdFs, Option.some.injEq] at hk
    subst hk
    simp only [fineFs] at hf
    have := Nat.eq_of_beq_eq_true hf
    simp only [RL_u]
    rw [List.drop_eq_nil_of_le (by omega)]
  | f :: r, off, ls, [], _, _, _, hl, _ => by simp at hl
  | f :: r, off, ls, y :: ys, hk, hf, hx, hl, hw => by
    simp only [cdFs] at hk
    split at hk <;> try (simp at hk; done)
    rename_i a ha
    split at hk <;> simp only [Option.some.injEq, reduceCtorEq] at hk
    rename_i b hb
    subst hk
    simp only [fineFs, Bool.and_eq_true] at hf
    obtain ⟨⟨f1, f2⟩, f3⟩ := hf
    have ho := Nat.eq_of_beq_eq_true f1
    have h0 := hx 0 f rfl
    simp only [List.getElem?_cons_zero] at h0
    simp only [List.map_cons, Rows.uptoBulkAll] at hw
    obtain ⟨e1, e2⟩ := ih _ _ ha f2 n _ y h0 (by omega)
    have rest := trod_fs_u ih hc r (off + P.cellsOf f.type) b ys hb f3 (fun i g hg => by simpa using hx (i + 1) g (by simpa using hg)) (by simpa using hl) (by omega)
    rw [ho] at e2
    have := RL_append_u e2 rest
    rwa [← List.drop_drop, List.take_append_drop] at this
theorem trod_es_u {d m : Nat} {e : TypeId} {ls : List Cd} (hk : cdLs P d e = some ls) (hf : fineT P B d e = true) (ih : GoodAt_u H enc P w base spare held B d) {cs : List Value} : ∀ (k i0 : Nat) (xs : List (DataW H × List MemPlace)), xs.length = k →
    (∀ i, i < k → DataW.trod enc P w base spare held m e ((cs.drop ((i0 + i) * P.cellsOf e)).take (P.cellsOf e)) = xs[i]?) → cs.length = (i0 + k) * P.cellsOf e → Rows.uptoBulkAll (xs.map (·.1)) ≤ bulkN →
    RL_u (lies w) B (repC ls k) (cs.drop (i0 * P.cellsOf e))
  | 0, i0, xs, hl, _, hc, _ => by
    simp only [repC, RL_u]
    rw [List.drop_eq_nil_of_le (by rw [hc]; simp)]
  | k + 1, i0, [], hl, _, _, _ => by simp at hl
  | k + 1, i0, y :: ys, hl, hx, hc, hw => by
    have h0 := hx 0 (by omega)
    simp only [Nat.add_zero, List.getElem?_cons_zero] at h0
    simp only [List.map_cons, Rows.uptoBulkAll] at hw
    obtain ⟨e1, e2⟩ := ih _ _ hk hf m _ y h0 (by omega)
    have rest := trod_es_u hk hf ih (cs := cs) k (i0 + 1) ys (by simpa using hl) (fun i hi => by
      have := hx (i + 1) (by omega)
      rw [show i0 + (i + 1) = i0 + 1 + i by omega] at this
      simpa using this) (by rw [hc]; congr 1; omega) (by omega)
    simp only [repC]
    have := RL_append_u e2 rest
    rwa [show (i0 + 1) * P.cellsOf e = i0 * P.cellsOf e + P.cellsOf e by rw [Nat.succ_mul], ← List.drop_drop, List.take_append_drop] at this
theorem trod_rl_u : ∀ d, GoodAt_u H enc P w base spare held B d := by
  intro d
  induction d with
  | zero => intro t ls h; simp [cdLs] at h
  | succ d ih =>
    intro t ls h hf fuel cs x hx hw
    simp only [cdLs] at h
    simp only [fineT] at hf
    split at h <;> try (simp at h; done)
    · rename_i k hu
      rw [hu] at hf
      simp only [Option.some.injEq] at h; subst h
      obtain ⟨n, rfl, rfl, hwf⟩ := DataW.trod_int hu hx
      exact ⟨(Nat.eq_of_beq_eq_true hf).symm, by simp only [RL_u]; exact ⟨[_], [], n, rfl, by simp only [rc], hwf, rfl⟩⟩
    · rename_i hu
      rw [hu] at hf
      simp only [Option.some.injEq] at h; subst h
      cases fuel with
      | zero => simp [DataW.trod] at hx
      | succ fuel =>
        unfold DataW.trod at hx
        rw [hu] at hx
        have hf' := Nat.eq_of_beq_eq_true hf
        split at hx <;> simp_all
        rename_i b
        simp only [RL_u]
        exact ⟨[.bool b], [], b, rfl, by simp only [rc], trivial, rfl⟩
    · rename_i hu
      rw [hu] at hf
      simp only [Option.some.injEq] at h; subst h
      cases fuel with
      | zero => simp [DataW.trod] at hx
      | succ fuel =>
        unfold DataW.trod at hx
        rw [hu] at hx
        have hf' := Nat.eq_of_beq_eq_true hf
        split at hx <;> simp_all
        rename_i s
        obtain ⟨hm, rfl⟩ := hx
        simp only [Rows.uptoBulk, Array.length_toList] at hw
        simp only [RL_u]
        exact ⟨[.string s], [], s, rfl, by simp only [rc], by have h3 : s.data.size = s.size := rfl; simp only [wfD_u]; omega, rfl⟩
    · rename_i e hu
      rw [hu] at hf
      split at h <;> try (simp at h; done)
      rename_i l hl
      split at h <;> simp only [Option.some.injEq, reduceCtorEq] at h
      rename_i c hc
      subst h
      have hcd : cdOf P d e = some c := by unfold cdOf; rw [hl]; exact hc
      simp only [hcd] at hf
      simp only [Bool.and_eq_true] at hf
      obtain ⟨f0, f1, ⟨f2, f3⟩, f4⟩ := hf
      have f2' := Nat.eq_of_beq_eq_true f2
      have f3' := Nat.le_of_ble_eq_true f3
      have f4' : 0 < c.size := by simpa [Nat.blt_eq] using f4
      rcases Go.Deep.open_slice hu hx with ⟨rfl, _⟩ | ⟨a, len, cap, m, n, D, Pl, rfl, hb, hle, hm, hmm, rfl, hi⟩
      · exact ⟨(Nat.eq_of_beq_eq_true f0).symm, by
          simp only [RL_u]
          exact ⟨[_], [], [], rfl, by simp only [rc]; exact ⟨none, 0, rfl, Nat.le_refl _, fun i hi => by simp at hi⟩, ⟨by simp, fun x hx => by simp at hx⟩, rfl⟩⟩
      · simp only [Rows.uptoBulk] at hw
        have hlm : len ≤ m := by rw [hmm]; split <;> omega
        have key : ∀ i, i < len → ∃ (y : c.T), (∃ ws, (∀ j, j < ws.length → w.cell? ((a.add (i * c.size)).add j) = ws[j]?) ∧ rc (lies w) c y ws) ∧ wfD_u B c y := by
          intro i hil
          obtain ⟨cs', h1, h2⟩ := hi i (by omega)
          obtain ⟨_, k1, k2⟩ := World.cells?_some h1
          have hsm : Rows.uptoBulk (D i) ≤ bulkN := bulk_all (l := (List.range len).map D) (by omega) (List.mem_map.2 ⟨i, by simpa using hil, rfl⟩)
          obtain ⟨_, e2⟩ := ih e l hl f1 n cs' (D i, Pl i) h2 hsm
          obtain ⟨y, e3, e4⟩ := mkP_rl_u hc e2
          exact ⟨y, ⟨cs', fun j hj => by rw [← f2']; exact k2 j (by omega), e3⟩, e4⟩
        obtain ⟨ys, hlen, hys⟩ := list_of key
        refine ⟨(Nat.eq_of_beq_eq_true f0).symm, ?_⟩
        simp only [RL_u]
        refine ⟨[.slice (some a) len cap], [], ys, rfl, ?_, ⟨?_, fun x hx => ?_⟩, rfl⟩
        · simp only [rc]
          refine ⟨some a, cap, by rw [hlen], by omega, fun i hil => ?_⟩
          obtain ⟨⟨ws, h1, h2⟩, _⟩ := hys i hil
          obtain ⟨b, off, spot⟩ := a
          have hspot : spot = none := by
            obtain ⟨⟨ws0, g1, g2⟩, _⟩ := hys 0 (by omega)
            have hl2 := rc_len g2
            have h0 := g1 0 (by omega)
            rw [List.getElem?_eq_getElem (by omega)] at h0
            simpa [Addr.add] using World.cell?_spot h0
          subst hspot
          refine ⟨b, off, ws, rfl, fun j v hj => ?_, h2⟩
          have := h1 j (List.getElem?_eq_some_iff.1 hj).1
          rw [hj, add_eq, add_eq] at this
          exact this
        · have h4 := bulk_len ((List.range len).map D)
          rw [List.length_map, List.length_range] at h4
          rw [hlen]; omega
        · obtain ⟨i, hil, rfl⟩ := List.mem_iff_getElem.1 hx
          exact (hys i hil).2
    · rename_i fs hu
      rw [hu] at hf
      obtain ⟨xs, n, _, rfl, hl, hlen, hx'⟩ := DataW.trod_struct hu hx
      simp only [Rows.uptoBulk] at hw
      exact ⟨hl, by simpa using trod_fs_u ih hl fs.toList 0 ls xs h hf (fun i f h => hx' i f (by simpa using h)) (by simpa using hlen) (by omega)⟩
    · rename_i n e hu
      rw [hu] at hf
      split at h <;> simp only [Option.some.injEq, reduceCtorEq] at h
      rename_i l hl
      subst h
      simp only [Bool.and_eq_true] at hf
      have b2 := Nat.eq_of_beq_eq_true hf.2
      obtain ⟨xs, m, _, rfl, hlc, hlen, hx'⟩ := DataW.trod_array hu hx
      simp only [Rows.uptoBulk] at hw
      have := trod_es_u (m := m) hl hf.1 ih (cs := cs) n 0 xs hlen (fun i hi => by simpa using hx' i hi) (by rw [hlc, b2]; simp) (by omega)
      exact ⟨hlc, by simpa using this⟩
end
section
variable {H : Type} {enc : TypeId × Value → H} {P : Program} {w : World} {base b0 : Nat} {spare : Nat → Bool} {held : Bool} {B : Cd → Nat} {r : Reach} {t : TypeId} {v : Value} {d : DataW H} {p : List MemPlace}
/-- a struct of data that came in -/
theorem open_st_u {fs : Array Field} {c : Cd} (hu : P.underlying t = some (.struct fs)) (hls : cdOf P 9 t = some c) (hf : fineT P B 9 t = true) (hv : Value.okWide P w r b0 t v) (h : DataW.Trod enc P w base spare held t v d p) (hw : Rows.uptoBulk d ≤ bulkN) :
    ∃ y : c.T, wfD_u B c y ∧ SV.rl (rfOf w) (.agg (cellsD c y)) v := by
  obtain ⟨fuel, hx⟩ := h
  unfold cdOf at hls
  split at hls <;> try (simp at hls; done)
  rename_i l hl
  obtain ⟨_, h2⟩ := trod_rl_u 9 t l hl hf fuel _ _ hx hw
  obtain ⟨y, h3, h4⟩ := mkP_rl_u hls h2
  refine ⟨y, h4, ?_⟩
  have hagg : ∃ cs, v = .agg cs := by
    unfold Value.okWide at hv
    rw [hu] at hv
    cases v <;> first | exact ⟨_, rfl⟩ | simp at hv
  obtain ⟨cs, rfl⟩ := hagg
  simp only [SV.rl]
  exact ⟨cs.toList, by simp, by simpa [Value.cells] using cellsD_rls (ρ := rfOf w) h3⟩
/-- a slice of data that came in -/
theorem open_sl_u {e : TypeId} {c : Cd} (hu : P.underlying t = some (.slice e)) (hls : cdOf P 9 t = some (.list c)) (hf : fineT P B 9 t = true) (hv : Value.okWide P w r b0 t v) (h : DataW.Trod enc P w base spare held t v d p) (hw : Rows.uptoBulk d ≤ bulkN) :
    ∃ ys : List c.T, wfD_u B (.list c) ys ∧ rc (lies w) (.list c) ys [v] := by
  obtain ⟨a, len, cap, rfl⟩ := Go.WideShapes.okWide_slice hu hv
  obtain ⟨fuel, hx⟩ := h
  unfold cdOf at hls
  split at hls <;> try (simp at hls; done)
  rename_i l hl
  obtain ⟨_, h2⟩ := trod_rl_u 9 t l hl hf fuel _ _ hx hw
  obtain ⟨y, h3, h4⟩ := mkP_rl_u hls h2
  exact ⟨y, h4, by simpa [Value.cells] using h3⟩
end
theorem wfD_of_u {B : Cd → Nat} (hB : ∀ c, B c ≤ 1000) : ∀ {c : Cd} {y : c.T}, wfD_u B c y → wfD B c y
  | .int k, y, h => by simpa only [wfD, wfD_u] using h
  | .bool, y, h => trivial
  | .str, y, h => by simp only [wfD_u, bulkN] at h; simp only [wfD]; omega
  | .list c, y, h => by
    simp only [wfD_u, bulkN] at h
    simp only [wfD]
    refine ⟨?_, fun x hx => wfD_of_u hB (h.2 x hx)⟩
    have := Nat.mul_le_mul h.1 (hB c)
    omega
  | .pair a b, y, h => ⟨wfD_of_u hB h.1, wfD_of_u hB h.2⟩
end
end Go.Proofs.YtmadebejnhinoaaDoor.V
