/- IvalHulls: contracts, and what is kept while pairs are gone through. Conditions: none. -/
import Derived.Test.YtbbplkdjcgdaaaaDoorX1
set_option linter.unusedVariables false
set_option linter.unusedSimpArgs false
namespace Go.Proofs.YtbbplkdjcgdaaaaDoor.V
open Go Go.Wk Go.RowKit

theorem calls_of {T : Tab} (h : TabOK P G T) {g : Nat} {F : FV} (hg : T g = some F) {vs : List Value} {v : Value} {w : World} (hG : GOK G w)
    (hF : F vs = some (true, v)) : Calls P g vs.toArray w fun e w' => e = .returned v ∧ Below w.heap.size w w' := (h g F hg).2 vs v w hG hF
theorem gok_b {w w' : World} (h : GOK G w) {n : Nat} (hn : w.heap.size ≤ n) (hb : Below n w w') : GOK G w' := by
  intro g cs hg j v hv
  exact ((hb.mono hn).cell (p := ⟨g, j, none⟩) (gok_lt C h g cs hg)).trans (h g cs hg j v hv)
theorem works_true : law_works = true := by decide +kernel
theorem k_works {w : World} (hG : GOK G w) : Calls P 8 #[] w fun e w' => e = .returned (.bool true) ∧ Below w.heap.size w w' := by
  have := calls_of (vs := []) law_works.t (g := 8) (F := law_works.F) rfl hG (v := .bool law_works) rfl
  rwa [works_true] at this
theorem k_short {w : World} (hG : GOK G w) (x b : Int) : Calls P 31 #[.int .i64 x, .int .i64 b] w fun e w' => e = .returned (.agg #[.int .i64 (law_short x b).1, .int .i64 (law_short x b).2]) ∧ Below w.heap.size w w' :=
  calls_of (vs := [.int .i64 x, .int .i64 b]) law_short.t (g := 31) (F := law_short.F) rfl hG rfl
theorem k_asked {w : World} (hG : GOK G w) (how a b c d : Int) : Calls P 32 #[.int .i64 how, .agg #[.int .i64 a, .int .i64 b], .agg #[.int .i64 c, .int .i64 d]] w fun e w' =>
    e = .returned (.tuple #[.agg #[.int .i64 (law_asked how a b c d).1, .int .i64 (law_asked how a b c d).2.1], .bool (law_asked how a b c d).2.2]) ∧ Below w.heap.size w w' :=
  calls_of (vs := [.int .i64 how, .agg #[.int .i64 a, .int .i64 b], .agg #[.int .i64 c, .int .i64 d]]) law_asked.t (g := 32) (F := law_asked.F) rfl hG rfl
theorem k_done {w : World} (hG : GOK G w) (how : Int) {x y : Int} (hx : I64 x) (hy : I64 y) : Calls P 34 #[.int .i64 how, .int .i64 x, .int .i64 y] w fun e w' =>
    e = .returned (.tuple #[.int .i64 (doneS how x y).1, .bool (doneS how x y).2.1, .bool (doneS how x y).2.2]) ∧ Below w.heap.size w w' := by
  have := calls_of (vs := [.int .i64 how, .int .i64 x, .int .i64 y]) law_done.t (g := 34) (F := law_done.F) rfl hG (v := .tuple #[.int .i64 (law_done how x y).1, .bool (law_done how x y).2.1, .bool (law_done how x y).2.2]) (by
    have e : law_done.F [.int .i64 how, .int .i64 x, .int .i64 y] = some (law_done.ok how x y, .tuple #[.int .i64 (law_done how x y).1, .bool (law_done how x y).2.1, .bool (law_done how x y).2.2]) := rfl
    rw [e, done_ok how hx hy])
  rwa [done_s how hx hy] at this
theorem mod7 {b : Int} (hb : I64 b) : 0 ≤ law_mod b 7 ∧ law_mod b 7 ≤ 6 := by
  have e := Int.mul_tdiv_add_tmod b 7
  have m1 : (b.tmod 7).natAbs < 7 := by
    have := Int.natAbs_tmod b 7
    rw [this]
    exact Nat.mod_lt _ (by decide)
  unfold law_mod law_mod.c law_mod.c0
  simp only [id]
  have k : (!decide ((7 : Int) = 0)) = true := by decide
  rw [k]
  simp only [cond_true]
  by_cases g : b.tmod 7 < 0
  · rw [decide_eq_true g]
    simp only [cond_true, wi_eq]
    omega
  · rw [decide_eq_false g]
    simp only [cond_false]
    omega
theorem short_s' {x b : Int} (hx : I64 x) (hb : I64 b) : ∃ (l : Int) (n : Nat), n ≤ 6 ∧ law_short x b = (l, l + n) ∧ I64 l ∧ I64 (l + n) := by
  obtain ⟨m0, m6⟩ := mod7 hb
  unfold I64 at hx
  unfold law_short law_short.c law_short.c0
  simp only [id]
  have e : IntKind.i64.wrap (9223372036854775807 - law_mod b 7) = 9223372036854775807 - law_mod b 7 := wi_id (by omega) (by omega)
  rw [e]
  by_cases g : x > 9223372036854775807 - law_mod b 7
  · rw [decide_eq_true g]
    simp only [cond_true]
    refine ⟨9223372036854775807 - law_mod b 7, (law_mod b 7).toNat, by omega, ?_, by unfold I64; omega, by unfold I64; omega⟩
    rw [wi_id (by omega) (by omega)]
    congr 1; omega
  · rw [decide_eq_false g]
    simp only [cond_false]
    refine ⟨x, (law_mod b 7).toNat, by omega, ?_, by unfold I64; omega, by unfold I64; omega⟩
    rw [wi_id (by omega) (by omega)]
    congr 1; omega
/-- what is kept while pairs are gone through -/
structure Inv (how a b c d : Int) (i j : Nat) (h0 h1 : Int) (wr : Bool) : Prop where
  hull : Hull (h0, h1) (ResP (Done a b c d i j) how)
  wr_ : wr = true ↔ WrP (Done a b c d i j) how
theorem inv_start (how a b c d : Int) : Inv how a b c d 0 0 1 0 false where
  hull := .inl ⟨rfl, by rintro q ⟨x, y, ⟨⟨h1, _, h3, _⟩, h⟩, _⟩; omega⟩
  wr_ := ⟨fun h => by simp at h, by rintro ⟨x, y, ⟨⟨h1, _, h3, _⟩, h⟩, _⟩; omega⟩
theorem inv_step {how a b c d : Int} {i j : Nat} {h0 h1 : Int} {wr : Bool} (I : Inv how a b c d i j h0 h1 wr) (hi : a + i ≤ b) (hj : c + j ≤ d) (ht : (doneS how (a + i) (c + j)).2.1 = true) :
    Inv how a b c d i (j + 1) (hstep (h0, h1) (doneS how (a + i) (c + j)).1).1 (hstep (h0, h1) (doneS how (a + i) (c + j)).1).2 (wr || (doneS how (a + i) (c + j)).2.2) where
  hull := by
    refine (hstep_hull I.hull (doneS how (a + i) (c + j)).1).congr fun q => ⟨?_, ?_⟩
    · rintro (⟨x, y, ⟨hB, h⟩, h2, h3⟩ | rfl)
      · exact ⟨x, y, ⟨hB, by omega⟩, h2, h3⟩
      · exact ⟨a + i, c + j, ⟨⟨by omega, hi, by omega, hj⟩, by omega⟩, ht, rfl⟩
    · rintro ⟨x, y, ⟨hB, h⟩, h2, h3⟩
      by_cases g : x = a + i ∧ y = c + j
      · obtain ⟨rfl, rfl⟩ := g; exact .inr h3
      · exact .inl ⟨x, y, ⟨hB, by omega⟩, h2, h3⟩
  wr_ := by
    rw [Bool.or_eq_true, I.wr_]
    constructor
    · rintro (⟨x, y, ⟨hB, h⟩, h2, h3⟩ | h)
      · exact ⟨x, y, ⟨hB, by omega⟩, h2, h3⟩
      · exact ⟨a + i, c + j, ⟨⟨by omega, hi, by omega, hj⟩, by omega⟩, ht, h⟩
    · rintro ⟨x, y, ⟨hB, h⟩, h2, h3⟩
      by_cases g : x = a + i ∧ y = c + j
      · obtain ⟨rfl, rfl⟩ := g; exact .inr h3
      · exact .inl ⟨x, y, ⟨hB, by omega⟩, h2, h3⟩
theorem inv_skip {how a b c d : Int} {i j : Nat} {h0 h1 : Int} {wr : Bool} (I : Inv how a b c d i j h0 h1 wr) (ht : (doneS how (a + i) (c + j)).2.1 = false) : Inv how a b c d i (j + 1) h0 h1 wr := by
  have k : ∀ x y, (doneS how x y).2.1 = true → (Done a b c d i j x y ↔ Done a b c d i (j + 1) x y) := by
    intro x y h2
    refine ⟨fun ⟨hB, h⟩ => ⟨hB, by omega⟩, fun ⟨hB, h⟩ => ⟨hB, ?_⟩⟩
    by_cases g : x = a + i ∧ y = c + j
    · obtain ⟨rfl, rfl⟩ := g; rw [ht] at h2; simp at h2
    · omega
  refine ⟨I.hull.congr fun q => ⟨?_, ?_⟩, I.wr_.trans ⟨?_, ?_⟩⟩
  · rintro ⟨x, y, h, h2, h3⟩; exact ⟨x, y, (k x y h2).1 h, h2, h3⟩
  · rintro ⟨x, y, h, h2, h3⟩; exact ⟨x, y, (k x y h2).2 h, h2, h3⟩
  · rintro ⟨x, y, h, h2, h3⟩; exact ⟨x, y, (k x y h2).1 h, h2, h3⟩
  · rintro ⟨x, y, h, h2, h3⟩; exact ⟨x, y, (k x y h2).2 h, h2, h3⟩
theorem inv_row {how a b c d : Int} {i m : Nat} {h0 h1 : Int} {wr : Bool} (I : Inv how a b c d i (m + 1) h0 h1 wr) (hd : d = c + m) : Inv how a b c d (i + 1) 0 h0 h1 wr := by
  have k : ∀ x y, (Done a b c d i (m + 1) x y ↔ Done a b c d (i + 1) 0 x y) := by
    intro x y
    exact ⟨fun ⟨hB, h⟩ => ⟨hB, by omega⟩, fun ⟨hB, h⟩ => ⟨hB, by have := hB.2.2.2; have := hB.2.2.1; omega⟩⟩
  have e : Done a b c d i (m + 1) = Done a b c d (i + 1) 0 := by funext x y; exact propext (k x y)
  exact ⟨e ▸ I.hull, e ▸ I.wr_⟩
theorem inv_end {how a b c d : Int} {n : Nat} {h0 h1 : Int} {wr : Bool} (I : Inv how a b c d (n + 1) 0 h0 h1 wr) (hb : b = a + n) : Hull (h0, h1) (ResP (Box a b c d) how) ∧ (wr = true ↔ WrP (Box a b c d) how) := by
  have e : Done a b c d (n + 1) 0 = Box a b c d := by
    funext x y
    exact propext ⟨fun h => h.1, fun h => ⟨h, by have := h.2.1; omega⟩⟩
  exact ⟨e ▸ I.hull, e ▸ I.wr_⟩
end Go.Proofs.YtbbplkdjcgdaaaaDoor.V
