/- Loops whose rounds are told one by one. Conditions: none. -/
import Derived.Test.YtbbplkdjcgdaaaaDoorWkL
set_option linter.unusedVariables false
set_option linter.unusedSimpArgs false
set_option autoImplicit false
namespace Go.Wk
open Go Go.RowKit

/-- what follows a round: the loop again, or what is behind it -/
def roundK {R : Type} (H : Heads) (B : Code) (F : LSum) (k : Xt → St → Option R) (e : Xt) (s : St) : Option R := match e with
  | .nrm => F.run (headT H B s) k
  | .ext i => k (.ext i) s
  | .ret => k .ret s
def noSum : LSum := { run := fun _ _ => none }
def roundS (P : Program) (G : Glob) (T : Tab) (H : Heads) (d : Nat) (B : Code) (F : LSum) : LSum where
  run := fun st k => match st.saved with
    | [] => ex P G T H d B st (roundK H B F k)
    | _ :: _ => none
def sumN (P : Program) (G : Glob) (T : Tab) (H : Heads) (d : Nat) (B : Code) : Nat → LSum
  | 0 => noSum
  | n + 1 => roundS P G T H d B (sumN P G T H d B n)

theorem sumN_run {P : Program} {G : Glob} {T : Tab} {H : Heads} {d : Nat} {B : Code} {n : Nat} {R : Type} {st : St} {k : Xt → St → Option R} (h : st.saved = []) :
    (sumN P G T H d B (n + 1)).run st k = ex P G T H d B st (roundK H B (sumN P G T H d B n) k) := by
  simp only [sumN, roundS, h]
theorem sumN_sound {P : Program} {G : Glob} {T : Tab} (hM : P.follows .mixedOrders = true) (hN : NoCount P) (hT : TabOK P G T) {H : Heads} {d : Nat} {B : Code} (hL : LoopsOK P G H.sums B) (n : Nat) :
    SoundL P G B (sumN P G T H d B n) := by
  have key : ∀ n (R : Type) (st : St) (k : Xt → St → Option R) (r : R), (sumN P G T H d B n).run st k = some r → ∀ (base : Nat) (ρ : Nat → Nat) (a : Act) (sv : List (List Value)) (w : World) (Q : Exit → Act → World → Prop), SRel G base ρ st a sv w →
      (∀ e st' ρ' a' w', k e st' = some r → SRel G base ρ' st' a' sv w' → Below base w w' → Q e.to a' w') → Code.rounds P B Q n a w := by
    intro n
    induction n with
    | zero => intro R st k r h; simp [sumN, noSum] at h
    | succ n ih =>
      intro R st k r h base ρ a sv w Q S hQ
      simp only [sumN, roundS] at h
      split at h <;> try (simp at h; done)
      rename_i hs
      rw [rounds_succ]
      refine ex_sound hM hN hT H d B st _ r (fun _ => hL) h base ρ a sv w _ S ?_
      intro e st' ρ' a' w' hk S' hb
      cases e with
      | nrm => exact ih R _ k r hk base ρ' a' sv w' Q (headT_rel S') fun e2 st2 ρ2 a2 w2 h2 S2 hb2 => hQ e2 st2 ρ2 a2 w2 h2 S2 (hb.trans hb2)
      | ext i => exact hQ _ _ _ _ _ hk S' hb
      | ret => exact hQ _ _ _ _ _ hk S' hb
  intro R st k r h base ρ a sv w Q S hQ
  exact wp_loop_rounds n (key n R st k r h base ρ a sv w Q S hQ)

/-- what is behind a place of a code -/
def kAt {R : Type} (P : Program) (G : Glob) (T : Tab) (H : Heads) : List Nat → Nat → Code → (Xt → St → Option R) → Xt → St → Option R
  | p, d + 1, .seq a b, k => match p with
    | 0 :: p => kAt P G T H p d a fun e st' => match e with
        | .nrm => ex P G T H d b st' k
        | e => k e st'
    | _ :: p => kAt P G T H p d b k
    | [] => k
  | p, d + 1, .cond _ a b, k => match p with
    | 0 :: p => kAt P G T H p d a k
    | _ :: p => kAt P G T H p d b k
    | [] => k
  | p, d + 1, .block id b, k => match p with
    | _ :: p => kAt P G T H p d b fun e st' => match e with
        | .ext i => bif Nat.beq i id then k .nrm st' else k e st'
        | e => k e st'
    | [] => k
  | p, d + 1, .scope b, k => match p with
    | _ :: p => kAt P G T H p d b k
    | [] => k
  | _, _, _, k => k
/-- the loop's body at a place -/
def loopAt : List Nat → Code → Code
  | p, .seq a b => match p with
    | 0 :: p => loopAt p a
    | _ :: p => loopAt p b
    | [] => .skip
  | p, .cond _ a b => match p with
    | 0 :: p => loopAt p a
    | _ :: p => loopAt p b
    | [] => .skip
  | p, .block _ b => match p with
    | _ :: p => loopAt p b
    | [] => .skip
  | p, .scope b => match p with
    | _ :: p => loopAt p b
    | [] => .skip
  | p, .loop b => match p with
    | _ :: p => loopAt p b
    | [] => b
  | _, _ => .skip
def fbody (fn : Func) : Code := match fn.body with
  | some c => c
  | none => .skip

theorem LoopsOK_code {P : Program} {G : Glob} {S : List (Nat × LSum)} {c : Code} (h : ∀ i, i < (loopsOf c).length → ∀ F, lookS S (hd ((loopsOf c).getD i .skip)) = some F → SoundL P G ((loopsOf c).getD i .skip) F) : LoopsOK P G S c := by
  refine LoopsOK_of fun B hB F hF => ?_
  obtain ⟨i, hi, rfl⟩ := List.mem_iff_getElem.1 hB
  have e : (loopsOf c).getD i .skip = (loopsOf c)[i] := by simp [hi]
  rw [← e] at hF ⊢
  exact h i hi F hF
theorem LoopsOK_body {P : Program} {G : Glob} {S : List (Nat × LSum)} {fn : Func} (h : LoopsOK P G S (fbody fn)) (c : Code) (hc : fn.body = some c) : LoopsOK P G S c := by
  simpa [fbody, hc] using h
/-- one loop of a list, known by its number -/
theorem soundAt {P : Program} {G : Glob} {S : List (Nat × LSum)} {B B' : Code} {F F' : LSum} (e : B = B') (h' : lookS S (hd B) = some F') (h : SoundL P G B' F') (hF : lookS S (hd B) = some F) : SoundL P G B F := by
  subst e
  rw [h'] at hF
  cases hF
  exact h
theorem TabOK_mkH {P : Program} {G : Glob} {α : Type} {l : TL} {f : Nat} {fn : Func} {s : PS α} {g : α → Bool} {r : α → Value} (C : Cx P G) (h : TabOK P G (tab l)) (hf : P.funcs[f]? = some fn) (hb : fn.body.isNone = false)
    (H : α → Heads) (hL : ∀ p, LoopsOK P G (H p).sums (fbody fn)) (d : Nat) (hF : ∀ p, g p = true → runF P G (tab l) (H p) d fn (s.enc p) = some (r p)) : TabOK P G (tab ((f, mkF s g r) :: l)) :=
  TabOK_run C h hf hb fun vs v hv => by
    obtain ⟨p, rfl, hg, rfl⟩ := mkF_inv hv
    exact ⟨H p, d, LoopsOK_body (hL p), hF p hg⟩

theorem pm {γ δ : Type} (f : γ → δ) (b : Bool) (X Y : Option δ) (p q : Option γ) (hX : X = p.map f) (hY : Y = q.map f) : (bif b then X else Y) = (bif b then p else q).map f := by cases b <;> assumption
end Go.Wk
