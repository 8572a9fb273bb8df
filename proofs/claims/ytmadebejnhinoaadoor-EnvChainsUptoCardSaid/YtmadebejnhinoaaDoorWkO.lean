/- Arguments that are data, opened: what a reading finds in memory is a datum. Conditions: none. -/
import Derived.Test.YtmadebejnhinoaaDoorX4
import Derived.Deep.Slices
set_option autoImplicit false
set_option linter.unusedVariables false
set_option linter.unusedSimpArgs false
namespace Go.Wk
noncomputable section
open Go Go.RowKit

/-- a datum that a reading can have: numbers in range, lists that a memory holds -/
def wfD (B : Cd → Nat) : (c : Cd) → c.T → Prop
  | .int k, (n : Int) => (Lit.int k n).wf = true
  | .bool, _ => True
  | .str, (s : ByteArray) => s.size ≤ 140737488351232
  | .list c, (xs : List c.T) => xs.length * B c ≤ 140737488351232 ∧ ∀ x ∈ xs, wfD B c x
  | .pair a b, p => wfD B a p.1 ∧ wfD B b p.2
def RL (f : Fz) (B : Cd → Nat) : List Cd → List Value → Prop
  | [], vs => vs = []
  | c :: r, vs => ∃ (us ws : List Value) (y : c.T), vs = us ++ ws ∧ rc f c y us ∧ wfD B c y ∧ RL f B r ws
theorem RL_append {f : Fz} {B : Cd → Nat} : ∀ {l m : List Cd} {us ws : List Value}, RL f B l us → RL f B m ws → RL f B (l ++ m) (us ++ ws)
  | [], m, us, ws, h, h' => by simp only [RL] at h; subst h; simpa using h'
  | c :: l, m, us, ws, h, h' => by
    simp only [RL] at h
    obtain ⟨a, b, y, rfl, h1, h2, h3⟩ := h
    simp only [List.cons_append, RL]
    exact ⟨a, b ++ ws, y, by simp, h1, h2, RL_append h3 h'⟩
theorem mkP_rl {f : Fz} {B : Cd → Nat} : ∀ {l : List Cd} {c : Cd} {vs : List Value}, mkP l = some c → RL f B l vs → ∃ y : c.T, rc f c y vs ∧ wfD B c y
  | [], c, vs, h, _ => by simp [mkP] at h
  | [a], c, vs, h, hr => by
    simp only [mkP, Option.some.injEq] at h
    subst h
    simp only [RL] at hr
    obtain ⟨us, ws, y, rfl, h1, h2, rfl⟩ := hr
    exact ⟨y, by simpa using h1, h2⟩
  | a :: b :: r, c, vs, h, hr => by
    simp only [mkP] at h
    split at h <;> simp only [Option.some.injEq, reduceCtorEq] at h
    rename_i d hd
    subst h
    simp only [RL] at hr
    obtain ⟨us, ws, y, rfl, h1, h2, h3⟩ := hr
    obtain ⟨z, h4, h5⟩ := mkP_rl (l := b :: r) hd (by simpa only [RL] using h3)
    exact ⟨(y, z), by simp only [rc]; exact ⟨us, ws, rfl, h1, h4⟩, h2, h5⟩
def fineFs (rec : TypeId → Bool) (P : Program) (total : Nat) : Nat → List Field → Bool
  | off, [] => Nat.beq off total
  | off, f :: r => Nat.beq f.offset off && rec f.type && fineFs rec P total (off + P.cellsOf f.type) r
def fineT (P : Program) (B : Cd → Nat) : Nat → TypeId → Bool
  | 0, _ => false
  | d + 1, t => match P.underlying t with
    | some (.slice e) => Nat.beq (P.cellsOf t) 1 && (fineT P B d e && (match cdOf P d e with
      | some c => Nat.beq (P.cellsOf e) c.size && Nat.ble (B c) (P.bytesOf e) && Nat.blt 0 c.size
      | none => false))
    | some (.struct fs) => fineFs (fineT P B d) P (P.cellsOf t) 0 fs.toList
    | some (.array n e) => fineT P B d e && Nat.beq (P.cellsOf t) (n * P.cellsOf e)
    | _ => Nat.beq (P.cellsOf t) 1
/-- memory as it lies -/
def lies (w : World) : Fz := fun b o => w.cell? ⟨b, o, none⟩
section
variable {H : Type} {enc : TypeId × Value → H} {P : Program} {w : World} {base : Nat} {spare : Nat → Bool} {held : Bool} {B : Cd → Nat}
def small (l : List Nat) : Prop := l.all (· ≤ reachBytes) = true
theorem small_app {l m : List Nat} : small (l ++ m) ↔ small l ∧ small m := by unfold small; rw [List.all_append, Bool.and_eq_true]
theorem small_cons {n : Nat} {m : List Nat} : small (n :: m) ↔ n ≤ reachBytes ∧ small m := by unfold small; rw [List.all_cons, Bool.and_eq_true, decide_eq_true_eq]
def GoodAt (H : Type) (enc : TypeId × Value → H) (P : Program) (w : World) (base : Nat) (spare : Nat → Bool) (held : Bool) (B : Cd → Nat) (d : Nat) : Prop :=
  ∀ (t : TypeId) (ls : List Cd), cdLs P d t = some ls → fineT P B d t = true → ∀ (fuel : Nat) (cs : List Value) (x : DataW H × List MemPlace), DataW.trod enc P w base spare held fuel t cs = some x → small (x.1.weights P t) → cs.length = P.cellsOf t ∧ RL (lies w) B ls cs
theorem trod_fs {d n : Nat} (ih : GoodAt H enc P w base spare held B d) {cs : List Value} {total : Nat} (hc : cs.length = total) : ∀ (fs : List Field) (off : Nat) (ls : List Cd) (xs : List (DataW H × List MemPlace)), cdFs (cdLs P d) fs = some ls → fineFs (fineT P B d) P total off fs = true →
    (∀ (i : Nat) (f : Field), fs[i]? = some f → DataW.trod enc P w base spare held n f.type ((cs.drop f.offset).take (P.cellsOf f.type)) = xs[i]?) → xs.length = fs.length → small (DataW.weightsEach P (fs.map (·.type)) (xs.map (·.1))) → RL (lies w) B ls (cs.drop off)
  | [], off, ls, xs, hk, hf, _, _, _ => by
    simp only [cdFs, Option.some.injEq] at hk
    subst hk
    simp only [fineFs] at hf
    have := Nat.eq_of_beq_eq_true hf
    simp only [RL]
    rw [List.drop_eq_nil_of_le (by omega)]
  | f :: r, off, ls, [], _, _, _, hl, _ => by simp at hl
  | f :: r, off, ls, y :: ys, hk, hf, hx, hl, hw => by
    simp only [cdFs] at hk
    split at hk <;> try (simp at hk; done)
    rename_i a ha
    split at hk <;> simp only [Option.some.injEq, reduceCtorEq] at hk
    rename_i b hb
    subst hk
    simp only [fineFs, Bool.and_eq_true] at hf
    obtain ⟨⟨f1, f2⟩, f3⟩ := hf
    have ho := Nat.eq_of_beq_eq_true f1
    have h0 := hx 0 f rfl
    simp only [List.getElem?_cons_zero] at h0
    simp only [List.map_cons, DataW.weightsEach, small_app] at hw
    obtain ⟨e1, e2⟩ := ih _ _ ha f2 n _ y h0 hw.1
    have rest := trod_fs ih hc r (off + P.cellsOf f.type) b ys hb f3 (fun i g hg => by simpa using hx (i + 1) g (by simpa using hg)) (by simpa using hl) hw.2
    rw [ho] at e2
    have := RL_append e2 rest
    rwa [← List.drop_drop, List.take_append_drop] at this
theorem trod_es {d m : Nat} {e : TypeId} {ls : List Cd} (hk : cdLs P d e = some ls) (hf : fineT P B d e = true) (ih : GoodAt H enc P w base spare held B d) {cs : List Value} : ∀ (k i0 : Nat) (xs : List (DataW H × List MemPlace)), xs.length = k →
    (∀ i, i < k → DataW.trod enc P w base spare held m e ((cs.drop ((i0 + i) * P.cellsOf e)).take (P.cellsOf e)) = xs[i]?) → cs.length = (i0 + k) * P.cellsOf e → small (DataW.weightsAll P e (xs.map (·.1))) →
    RL (lies w) B (repC ls k) (cs.drop (i0 * P.cellsOf e))
  | 0, i0, xs, hl, _, hc, _ => by
    simp only [repC, RL]
    rw [List.drop_eq_nil_of_le (by rw [hc]; simp)]
  | k + 1, i0, [], hl, _, _, _ => by simp at hl
  | k + 1, i0, y :: ys, hl, hx, hc, hw => by
    have h0 := hx 0 (by omega)
    simp only [Nat.add_zero, List.getElem?_cons_zero] at h0
    simp only [List.map_cons, DataW.weightsAll, small_app] at hw
    obtain ⟨e1, e2⟩ := ih _ _ hk hf m _ y h0 hw.1
    have rest := trod_es hk hf ih (cs := cs) k (i0 + 1) ys (by simpa using hl) (fun i hi => by
      have := hx (i + 1) (by omega)
      rw [show i0 + (i + 1) = i0 + 1 + i by omega] at this
      simpa using this) (by rw [hc]; congr 1; omega) hw.2
    simp only [repC]
    have := RL_append e2 rest
    rwa [show (i0 + 1) * P.cellsOf e = i0 * P.cellsOf e + P.cellsOf e by rw [Nat.succ_mul], ← List.drop_drop, List.take_append_drop] at this
theorem small_all {e : TypeId} : ∀ {l : List (DataW H)} {x : DataW H}, small (DataW.weightsAll P e l) → x ∈ l → small (x.weights P e)
  | a :: l, x, h, hx => by
    simp only [DataW.weightsAll, small_app] at h
    rcases List.mem_cons.1 hx with rfl | hx
    · exact h.1
    · exact small_all h.2 hx
theorem list_of {α : Type} {p : Nat → α → Prop} : ∀ {n : Nat}, (∀ i, i < n → ∃ y, p i y) → ∃ ys : List α, ys.length = n ∧ ∀ i, (h : i < ys.length) → p i ys[i]
  | 0, _ => ⟨[], rfl, fun i h => by simp at h⟩
  | n + 1, h => by
    obtain ⟨ys, e, hy⟩ := list_of (n := n) fun i hi => h i (by omega)
    obtain ⟨y, hy'⟩ := h n (by omega)
    refine ⟨ys ++ [y], by simp [e], fun i hi => ?_⟩
    by_cases hlt : i < ys.length
    · rw [List.getElem_append_left hlt]; exact hy i hlt
    · have : i = n := by simp at hi; omega
      subst this
      rw [List.getElem_append_right (by omega)]
      simpa using hy'
theorem trod_rl : ∀ d, GoodAt H enc P w base spare held B d := by
  intro d
  induction d with
  | zero => intro t ls h; simp [cdLs] at h
  | succ d ih =>
    intro t ls h hf fuel cs x hx hw
    simp only [cdLs] at h
    simp only [fineT] at hf
    split at h <;> try (simp at h; done)
    · rename_i k hu
      rw [hu] at hf
      simp only [Option.some.injEq] at h; subst h
      obtain ⟨n, rfl, rfl, hwf⟩ := DataW.trod_int hu hx
      exact ⟨(Nat.eq_of_beq_eq_true hf).symm, by simp only [RL]; exact ⟨[_], [], n, rfl, by simp only [rc], hwf, rfl⟩⟩
    · rename_i hu
      rw [hu] at hf
      simp only [Option.some.injEq] at h; subst h
      cases fuel with
      | zero => simp [DataW.trod] at hx
      | succ fuel =>
        unfold DataW.trod at hx
        rw [hu] at hx
        have hf' := Nat.eq_of_beq_eq_true hf
        split at hx <;> simp_all
        rename_i b
        simp only [RL]
        exact ⟨[.bool b], [], b, rfl, by simp only [rc], trivial, rfl⟩
    · rename_i hu
      rw [hu] at hf
      simp only [Option.some.injEq] at h; subst h
      cases fuel with
      | zero => simp [DataW.trod] at hx
      | succ fuel =>
        unfold DataW.trod at hx
        rw [hu] at hx
        have hf' := Nat.eq_of_beq_eq_true hf
        split at hx <;> simp_all
        rename_i s
        obtain ⟨hm, rfl⟩ := hx
        simp only [DataW.weights, small_cons, Array.length_toList] at hw
        have h3 : reachBytes = 140737488351232 := by decide
        simp only [RL]
        exact ⟨[.string s], [], s, rfl, by simp only [rc], by have := hw.1; rw [h3] at this; exact this, rfl⟩
    · rename_i e hu
      rw [hu] at hf
      split at h <;> try (simp at h; done)
      rename_i l hl
      split at h <;> simp only [Option.some.injEq, reduceCtorEq] at h
      rename_i c hc
      subst h
      have hcd : cdOf P d e = some c := by unfold cdOf; rw [hl]; exact hc
      simp only [hcd] at hf
      simp only [Bool.and_eq_true] at hf
      obtain ⟨f0, f1, ⟨f2, f3⟩, f4⟩ := hf
      have f2' := Nat.eq_of_beq_eq_true f2
      have f3' := Nat.le_of_ble_eq_true f3
      have f4' : 0 < c.size := by simpa [Nat.blt_eq] using f4
      rcases Go.Deep.open_slice hu hx with ⟨rfl, _⟩ | ⟨a, len, cap, m, n, D, Pl, rfl, hb, hle, hm, hmm, rfl, hi⟩
      · exact ⟨(Nat.eq_of_beq_eq_true f0).symm, by
          simp only [RL]
          exact ⟨[_], [], [], rfl, by simp only [rc]; exact ⟨none, 0, rfl, Nat.le_refl _, fun i hi => by simp at hi⟩, ⟨by simp, fun x hx => by simp at hx⟩, rfl⟩⟩
      · simp only [DataW.weights, hu, small_cons, small_app, List.length_map, List.length_range] at hw
        have hlm : len ≤ m := by rw [hmm]; split <;> omega
        have h3 : reachBytes = 140737488351232 := by decide
        have key : ∀ i, i < len → ∃ (y : c.T), (∃ ws, (∀ j, j < ws.length → w.cell? ((a.add (i * c.size)).add j) = ws[j]?) ∧ rc (lies w) c y ws) ∧ wfD B c y := by
          intro i hil
          obtain ⟨cs', h1, h2⟩ := hi i (by omega)
          obtain ⟨_, k1, k2⟩ := World.cells?_some h1
          have hsm : small ((D i).weights P e) := small_all hw.2.1 (List.mem_map.2 ⟨i, by simpa using hil, rfl⟩)
          obtain ⟨_, e2⟩ := ih e l hl f1 n cs' (D i, Pl i) h2 hsm
          obtain ⟨y, e3, e4⟩ := mkP_rl hc e2
          exact ⟨y, ⟨cs', fun j hj => by rw [← f2']; exact k2 j (by omega), e3⟩, e4⟩
        obtain ⟨ys, hlen, hys⟩ := list_of key
        refine ⟨(Nat.eq_of_beq_eq_true f0).symm, ?_⟩
        simp only [RL]
        refine ⟨[.slice (some a) len cap], [], ys, rfl, ?_, ⟨?_, fun x hx => ?_⟩, rfl⟩
        · simp only [rc]
          refine ⟨some a, cap, by rw [hlen], by omega, fun i hil => ?_⟩
          obtain ⟨⟨ws, h1, h2⟩, _⟩ := hys i hil
          obtain ⟨b, off, spot⟩ := a
          have hspot : spot = none := by
            obtain ⟨⟨ws0, g1, g2⟩, _⟩ := hys 0 (by omega)
            have hl2 := rc_len g2
            have h0 := g1 0 (by omega)
            rw [List.getElem?_eq_getElem (by omega)] at h0
            simpa [Addr.add] using World.cell?_spot h0
          subst hspot
          refine ⟨b, off, ws, rfl, fun j v hj => ?_, h2⟩
          have := h1 j (List.getElem?_eq_some_iff.1 hj).1
          rw [hj, add_eq, add_eq] at this
          exact this
        · have h4 := hw.1
          rw [h3] at h4
          have h5 : (len + (m - len)) * P.bytesOf e = m * P.bytesOf e := by congr 1; omega
          rw [h5] at h4
          have h6 : len * B c ≤ m * P.bytesOf e := Nat.mul_le_mul hlm f3'
          rw [hlen]; omega
        · obtain ⟨i, hil, rfl⟩ := List.mem_iff_getElem.1 hx
          exact (hys i hil).2
    · rename_i fs hu
      rw [hu] at hf
      obtain ⟨xs, n, _, rfl, hl, hlen, hx'⟩ := DataW.trod_struct hu hx
      simp only [DataW.weights, hu] at hw
      exact ⟨hl, by simpa using trod_fs ih hl fs.toList 0 ls xs h hf (fun i f h => hx' i f (by simpa using h)) (by simpa using hlen) hw⟩
    · rename_i n e hu
      rw [hu] at hf
      split at h <;> simp only [Option.some.injEq, reduceCtorEq] at h
      rename_i l hl
      subst h
      simp only [Bool.and_eq_true] at hf
      have b2 := Nat.eq_of_beq_eq_true hf.2
      obtain ⟨xs, m, _, rfl, hlc, hlen, hx'⟩ := DataW.trod_array hu hx
      simp only [DataW.weights, hu] at hw
      have := trod_es (m := m) hl hf.1 ih (cs := cs) n 0 xs hlen (fun i hi => by simpa using hx' i hi) (by rw [hlc, b2]; simp) hw
      exact ⟨hlc, by simpa using this⟩
end
/-- what an argument weighs, out of what all weigh -/
theorem small_at {H : Type} {P : Program} : ∀ {ts : List TypeId} {ds : List (DataW H)} {j : Nat} {t : TypeId} {d : DataW H}, small (DataW.weightsEach P ts ds) → ts[j]? = some t → ds[j]? = some d → small (d.weights P t)
  | a :: ts, x :: ds, 0, t, d, h, ht, hd => by
    simp only [List.getElem?_cons_zero, Option.some.injEq] at ht hd
    subst ht; subst hd
    simp only [DataW.weightsEach, small_app] at h
    exact h.1
  | a :: ts, x :: ds, j + 1, t, d, h, ht, hd => by
    simp only [DataW.weightsEach, small_app] at h
    exact small_at h.2 (by simpa using ht) (by simpa using hd)
  | [], _, _, _, _, _, ht, _ => by simp at ht
  | _ :: _, [], _, _, _, _, _, hd => by simp at hd
/-- the walk's start at a world as it lies -/
def rfOf (w : World) : Rf := ⟨fun _ => 0, lies w, fun _ => none⟩
theorem FOK_of (w : World) : FOK (rfOf w) w := fun _ _ _ h => h
section
variable {H : Type} {enc : TypeId × Value → H} {P : Program} {w : World} {base b0 : Nat} {spare : Nat → Bool} {held : Bool} {B : Cd → Nat} {r : Reach} {t : TypeId} {v : Value} {d : DataW H} {p : List MemPlace}
/-- a struct of data that came in -/
theorem open_st {fs : Array Field} {c : Cd} (hu : P.underlying t = some (.struct fs)) (hls : cdOf P 9 t = some c) (hf : fineT P B 9 t = true) (hv : Value.okWide P w r b0 t v) (h : DataW.Trod enc P w base spare held t v d p) (hw : small (d.weights P t)) :
    ∃ y : c.T, wfD B c y ∧ SV.rl (rfOf w) (.agg (cellsD c y)) v := by
  obtain ⟨fuel, hx⟩ := h
  unfold cdOf at hls
  split at hls <;> try (simp at hls; done)
  rename_i l hl
  obtain ⟨_, h2⟩ := trod_rl 9 t l hl hf fuel _ _ hx hw
  obtain ⟨y, h3, h4⟩ := mkP_rl hls h2
  refine ⟨y, h4, ?_⟩
  have hagg : ∃ cs, v = .agg cs := by
    unfold Value.okWide at hv
    rw [hu] at hv
    cases v <;> first | exact ⟨_, rfl⟩ | simp at hv
  obtain ⟨cs, rfl⟩ := hagg
  simp only [SV.rl]
  exact ⟨cs.toList, by simp, by simpa [Value.cells] using cellsD_rls (ρ := rfOf w) h3⟩
/-- a slice of data that came in -/
theorem open_sl {e : TypeId} {c : Cd} (hu : P.underlying t = some (.slice e)) (hls : cdOf P 9 t = some (.list c)) (hf : fineT P B 9 t = true) (hv : Value.okWide P w r b0 t v) (h : DataW.Trod enc P w base spare held t v d p) (hw : small (d.weights P t)) :
    ∃ ys : List c.T, wfD B (.list c) ys ∧ rc (lies w) (.list c) ys [v] := by
  obtain ⟨a, len, cap, rfl⟩ := Go.WideShapes.okWide_slice hu hv
  obtain ⟨fuel, hx⟩ := h
  unfold cdOf at hls
  split at hls <;> try (simp at hls; done)
  rename_i l hl
  obtain ⟨_, h2⟩ := trod_rl 9 t l hl hf fuel _ _ hx hw
  obtain ⟨y, h3, h4⟩ := mkP_rl hls h2
  exact ⟨y, h4, by simpa [Value.cells] using h3⟩
end
theorem TabOK_callsX {P : Program} {G : Glob} {T : Tab} (C : Cx P G) (h : TabOK P G T) {g : Nat} {F : FV} (hg : T g = some F) {fn : Func} (hf : P.funcs[g]? = some fn) (hb : fn.body.isNone = false) {as : List SV} {r : SV} {ρ : Rf} {xs : List Value} {w : World} (hG : GOK G w) (hF : FOK ρ w)
    (hr : SV.rls ρ as xs) (hv : F as = some (true, r)) : Calls P g xs.toArray w fun e w' => ∃ x, e = .returned x ∧ Below w.heap.size w w' ∧ SV.rl (ρ.grow w w') r x := by
  rcases h g F hg with ⟨_, hc⟩ | hc
  · exact hc as r ρ xs w hG hF hr hv
  · obtain ⟨x, h1, _⟩ := hc as r ρ xs w hr hv
    rw [enter_of ⟨fn, hf, C.names _ _ hf, hb⟩ w] at h1
    simp at h1
end
end Go.Wk
