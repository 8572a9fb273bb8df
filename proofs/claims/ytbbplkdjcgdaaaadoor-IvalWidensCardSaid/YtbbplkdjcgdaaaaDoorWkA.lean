/- The walk by evaluation, part A: abstract values, and how they stand for values in memory. Conditions: none. -/
import Derived.WalkKit
import Derived.Orders
set_option autoImplicit false
set_option linter.unusedVariables false
set_option linter.unusedSimpArgs false
set_option linter.unnecessarySimpa false
namespace Go.Wk
open Go Go.RowKit

inductive SV where
  | val (v : Value)
  | glob (g off : Nat)
  | ptr (i off : Nat)
  | slc (i off len : Nat)
  | fn (f : Fn) (first caps : List SV)
  | agg (cs : List SV)
  | tup (vs : List SV)
  | ifc (t : TypeId) (v : SV)
  | unk

structure LB where
  cells : List SV
  elem : TypeId

mutual
def SV.rl (ρ : Nat → Nat) : SV → Value → Prop
  | .val v, x => x = v
  | .glob g o, x => x = .pointer (some ⟨g, o, none⟩)
  | .ptr i o, x => x = .pointer (some ⟨ρ i, o, none⟩)
  | .slc i o n, x => ∃ (a : Addr) (c : Nat), x = .slice (some a) n c ∧ n ≤ c ∧ (n = 0 ∨ a = ⟨ρ i, o, none⟩)
  | .fn f p c, x => ∃ ps cs : List Value, x = .func f ps.toArray cs.toArray ∧ SV.rls ρ p ps ∧ SV.rls ρ c cs
  | .agg l, x => ∃ xs : List Value, x = .agg xs.toArray ∧ SV.rls ρ l xs
  | .tup l, x => ∃ xs : List Value, x = .tuple xs.toArray ∧ SV.rls ρ l xs
  | .ifc t v, x => ∃ y : Value, x = .iface t y ∧ SV.rl ρ v y
  | .unk, _ => True
def SV.rls (ρ : Nat → Nat) : List SV → List Value → Prop
  | [], [] => True
  | c :: cs, x :: xs => SV.rl ρ c x ∧ SV.rls ρ cs xs
  | [], _ :: _ => False
  | _ :: _, [] => False
end

mutual
def SV.free (k : Nat) : SV → Bool
  | .ptr i _ => !(Nat.beq i k)
  | .slc i _ _ => !(Nat.beq i k)
  | .fn _ p c => SV.freeL k p && SV.freeL k c
  | .agg l => SV.freeL k l
  | .tup l => SV.freeL k l
  | .ifc _ v => SV.free k v
  | .val _ => true
  | .glob _ _ => true
  | .unk => true
def SV.freeL (k : Nat) : List SV → Bool
  | [] => true
  | c :: cs => SV.free k c && SV.freeL k cs
end

/- no block from n on is met -/
mutual
def SV.und (n : Nat) : SV → Bool
  | .ptr i _ => Nat.blt i n
  | .slc i _ _ => Nat.blt i n
  | .fn _ p c => SV.undL n p && SV.undL n c
  | .agg l => SV.undL n l
  | .tup l => SV.undL n l
  | .ifc _ v => SV.und n v
  | .val _ => true
  | .glob _ _ => true
  | .unk => true
def SV.undL (n : Nat) : List SV → Bool
  | [] => true
  | c :: cs => SV.und n c && SV.undL n cs
end

def upd (ρ : Nat → Nat) (k r : Nat) : Nat → Nat := fun i => if i = k then r else ρ i

theorem upd_same (ρ : Nat → Nat) (k r : Nat) : upd ρ k r k = r := by simp [upd]
theorem upd_ne (ρ : Nat → Nat) {k r i : Nat} (h : i ≠ k) : upd ρ k r i = ρ i := by simp [upd, h]

mutual
theorem rl_upd (ρ : Nat → Nat) (k r : Nat) : ∀ (s : SV) (x : Value), SV.free k s = true → SV.rl ρ s x → SV.rl (upd ρ k r) s x
  | .val v, x, _, h => by simpa [SV.rl] using h
  | .glob g o, x, _, h => by simpa [SV.rl] using h
  | .ptr i o, x, hf, h => by
    have hi : i ≠ k := by intro e; subst e; simp [SV.free] at hf
    simpa [SV.rl, upd_ne ρ hi] using h
  | .slc i o n, x, hf, h => by
    have hi : i ≠ k := by intro e; subst e; simp [SV.free] at hf
    simpa [SV.rl, upd_ne ρ hi] using h
  | .fn f p c, x, hf, h => by
    simp only [SV.free, Bool.and_eq_true] at hf
    simp only [SV.rl] at h ⊢
    obtain ⟨ps, cs, e, hp, hc⟩ := h
    exact ⟨ps, cs, e, rls_upd ρ k r p ps hf.1 hp, rls_upd ρ k r c cs hf.2 hc⟩
  | .agg l, x, hf, h => by
    simp only [SV.free] at hf
    simp only [SV.rl] at h ⊢
    obtain ⟨xs, e, hl⟩ := h
    exact ⟨xs, e, rls_upd ρ k r l xs hf hl⟩
  | .tup l, x, hf, h => by
    simp only [SV.free] at hf
    simp only [SV.rl] at h ⊢
    obtain ⟨xs, e, hl⟩ := h
    exact ⟨xs, e, rls_upd ρ k r l xs hf hl⟩
  | .ifc t v, x, hf, h => by
    simp only [SV.free] at hf
    simp only [SV.rl] at h ⊢
    obtain ⟨y, e, hl⟩ := h
    exact ⟨y, e, rl_upd ρ k r v y hf hl⟩
  | .unk, x, _, h => by simp [SV.rl]
theorem rls_upd (ρ : Nat → Nat) (k r : Nat) : ∀ (l : List SV) (xs : List Value), SV.freeL k l = true → SV.rls ρ l xs → SV.rls (upd ρ k r) l xs
  | [], [], _, h => h
  | c :: cs, x :: xs, hf, h => by
    simp only [SV.freeL, Bool.and_eq_true] at hf
    simp only [SV.rls] at h ⊢
    exact ⟨rl_upd ρ k r c x hf.1 h.1, rls_upd ρ k r cs xs hf.2 h.2⟩
  | [], _ :: _, _, h => by simp [SV.rls] at h
  | _ :: _, [], _, h => by simp [SV.rls] at h
end

/-! lists -/
def nth : List SV → Nat → SV
  | [], _ => .val undef
  | x :: _, 0 => x
  | _ :: r, n + 1 => nth r n
def nth? : List SV → Nat → Option SV
  | [], _ => none
  | x :: _, 0 => some x
  | _ :: r, n + 1 => nth? r n
def setN : List SV → Nat → SV → List SV
  | [], _, _ => []
  | _ :: r, 0, v => v :: r
  | x :: r, n + 1, v => x :: setN r n v
def splice (l : List SV) : Nat → List SV → List SV
  | 0, cs => cs ++ l.drop cs.length
  | o, cs => l.take o ++ (cs ++ l.drop (o + cs.length))

theorem splice_eq (l : List SV) (o : Nat) (cs : List SV) : splice l o cs = l.take o ++ (cs ++ l.drop (o + cs.length)) := by
  cases o <;> simp [splice]

section
variable {ρ : Nat → Nat}
theorem rls_len : ∀ {l : List SV} {xs : List Value}, SV.rls ρ l xs → l.length = xs.length
  | [], [], _ => rfl
  | _ :: _, _ :: _, h => by simp only [SV.rls] at h; simp [rls_len h.2]
  | [], _ :: _, h => by simp [SV.rls] at h
  | _ :: _, [], h => by simp [SV.rls] at h
theorem rls_nth : ∀ {l : List SV} {xs : List Value} (t : Nat), SV.rls ρ l xs → SV.rl ρ (nth l t) (xs.getD t undef)
  | [], [], _, _ => by simp [nth, SV.rl]
  | _ :: _, _ :: _, 0, h => by simp only [SV.rls] at h; simpa [nth] using h.1
  | _ :: _, _ :: _, t + 1, h => by simp only [SV.rls] at h; simpa [nth] using rls_nth t h.2
  | [], _ :: _, _, h => by simp [SV.rls] at h
  | _ :: _, [], _, h => by simp [SV.rls] at h
theorem rls_nth? : ∀ {l : List SV} {xs : List Value} {t : Nat} {s : SV}, SV.rls ρ l xs → nth? l t = some s → ∃ x, xs[t]? = some x ∧ SV.rl ρ s x
  | [], [], _, _, _, h => by simp [nth?] at h
  | _ :: _, x :: _, 0, s, h, e => by simp only [SV.rls] at h; simp only [nth?, Option.some.injEq] at e; subst e; exact ⟨x, rfl, h.1⟩
  | _ :: _, _ :: xs, t + 1, s, h, e => by simp only [SV.rls] at h; simp only [nth?] at e; simpa using rls_nth? h.2 e
  | [], _ :: _, _, _, h, _ => by simp [SV.rls] at h
  | _ :: _, [], _, _, h, _ => by simp [SV.rls] at h
theorem rls_set : ∀ {l : List SV} {xs : List Value} (t : Nat) {s : SV} {x : Value}, SV.rls ρ l xs → SV.rl ρ s x → SV.rls ρ (setN l t s) (xs.set t x)
  | [], [], _, _, _, _, _ => by simp [setN, SV.rls]
  | _ :: _, _ :: _, 0, _, _, h, hs => by simp only [SV.rls] at h; simp only [setN, List.set_cons_zero, SV.rls]; exact ⟨hs, h.2⟩
  | _ :: _, _ :: _, t + 1, _, _, h, hs => by simp only [SV.rls] at h; simp only [setN, List.set_cons_succ, SV.rls]; exact ⟨h.1, rls_set t h.2 hs⟩
  | [], _ :: _, _, _, _, h, _ => by simp [SV.rls] at h
  | _ :: _, [], _, _, _, h, _ => by simp [SV.rls] at h
theorem rls_append : ∀ {l m : List SV} {xs ys : List Value}, SV.rls ρ l xs → SV.rls ρ m ys → SV.rls ρ (l ++ m) (xs ++ ys)
  | [], _, [], _, _, h => by simpa using h
  | _ :: _, _, _ :: _, _, h, hm => by simp only [SV.rls] at h; simp only [List.cons_append, SV.rls]; exact ⟨h.1, rls_append h.2 hm⟩
  | [], _, _ :: _, _, h, _ => by simp [SV.rls] at h
  | _ :: _, _, [], _, h, _ => by simp [SV.rls] at h
theorem rls_drop : ∀ {l : List SV} {xs : List Value} (n : Nat), SV.rls ρ l xs → SV.rls ρ (l.drop n) (xs.drop n)
  | [], [], _, _ => by simp [SV.rls]
  | _ :: _, _ :: _, 0, h => by simpa using h
  | _ :: _, _ :: _, n + 1, h => by simp only [SV.rls] at h; simpa using rls_drop n h.2
  | [], _ :: _, _, h => by simp [SV.rls] at h
  | _ :: _, [], _, h => by simp [SV.rls] at h
theorem rls_take : ∀ {l : List SV} {xs : List Value} (n : Nat), SV.rls ρ l xs → SV.rls ρ (l.take n) (xs.take n)
  | [], [], _, _ => by simp [SV.rls]
  | _ :: _, _ :: _, 0, h => by simp [SV.rls]
  | _ :: _, _ :: _, n + 1, h => by simp only [SV.rls] at h; simp only [List.take_succ_cons, SV.rls]; exact ⟨h.1, rls_take n h.2⟩
  | [], _ :: _, _, h => by simp [SV.rls] at h
  | _ :: _, [], _, h => by simp [SV.rls] at h
theorem rls_vals : ∀ (xs : List Value), SV.rls ρ (xs.map .val) xs
  | [] => by simp [SV.rls]
  | x :: xs => by simp only [List.map_cons, SV.rls, SV.rl]; exact ⟨trivial, rls_vals xs⟩
theorem rls_splice {l cs : List SV} {xs ys : List Value} (o : Nat) (h : SV.rls ρ l xs) (hc : SV.rls ρ cs ys) :
    SV.rls ρ (splice l o cs) (xs.take o ++ (ys ++ xs.drop (o + ys.length))) := by
  rw [splice_eq, rls_len hc]
  exact rls_append (rls_take _ h) (rls_append hc (rls_drop _ h))
end

def vals : List SV → Option (List Value)
  | [] => some []
  | .val v :: r => match vals r with
    | some vs => some (v :: vs)
    | none => none
  | _ => none

theorem vals_rls {ρ : Nat → Nat} : ∀ {l : List SV} {vs xs : List Value}, vals l = some vs → SV.rls ρ l xs → xs = vs
  | [], vs, [], h, _ => by simp [vals] at h; exact h.symm
  | .val v :: r, vs, x :: xs, h, hr => by
    simp only [SV.rls, SV.rl] at hr
    obtain ⟨rfl, hr⟩ := hr
    simp only [vals] at h
    split at h
    · rename_i ws hw
      simp only [Option.some.injEq] at h
      subst h
      rw [vals_rls hw hr]
    · simp at h
  | [], _, _ :: _, _, h => by simp [SV.rls] at h
  | .val _ :: _, _, [], _, h => by simp [SV.rls] at h
  | .glob _ _ :: _, _, _, h, _ | .ptr _ _ :: _, _, _, h, _ | .slc _ _ _ :: _, _, _, h, _ | .fn _ _ _ :: _, _, _, h, _ | .agg _ :: _, _, _, h, _
  | .tup _ :: _, _, _, h, _ | .ifc _ _ :: _, _, _, h, _ | .unk :: _, _, _, h, _ => by simp [vals] at h

def mkAgg (l : List SV) : SV := match vals l with
  | some vs => .val (.agg vs.toArray)
  | none => .agg l
def mkTup (l : List SV) : SV := match vals l with
  | some vs => .val (.tuple vs.toArray)
  | none => .tup l
def mkFn (f : Fn) (p c : List SV) : SV := match vals p with
  | some ps => match vals c with
    | some cs => .val (.func f ps.toArray cs.toArray)
    | none => .fn f p c
  | none => .fn f p c
section
variable {ρ : Nat → Nat}
theorem mkAgg_rl {l : List SV} {xs : List Value} (h : SV.rls ρ l xs) : SV.rl ρ (mkAgg l) (.agg xs.toArray) := by
  unfold mkAgg
  split
  · rename_i vs hv; rw [vals_rls hv h]; simp [SV.rl]
  · simp only [SV.rl]; exact ⟨xs, rfl, h⟩
theorem mkTup_rl {l : List SV} {xs : List Value} (h : SV.rls ρ l xs) : SV.rl ρ (mkTup l) (.tuple xs.toArray) := by
  unfold mkTup
  split
  · rename_i vs hv; rw [vals_rls hv h]; simp [SV.rl]
  · simp only [SV.rl]; exact ⟨xs, rfl, h⟩
theorem mkFn_rl {f : Fn} {p c : List SV} {ps cs : List Value} (hp : SV.rls ρ p ps) (hc : SV.rls ρ c cs) : SV.rl ρ (mkFn f p c) (.func f ps.toArray cs.toArray) := by
  unfold mkFn
  split
  · rename_i vs hv
    split
    · rename_i ws hw; rw [vals_rls hv hp, vals_rls hw hc]; simp [SV.rl]
    · simp only [SV.rl]; exact ⟨ps, cs, rfl, hp, hc⟩
  · simp only [SV.rl]; exact ⟨ps, cs, rfl, hp, hc⟩
end

/-- the cells of a value -/
def cellsOf : SV → Option (List SV)
  | .val (.agg a) => some (a.toList.map .val)
  | .val (.tuple _) => none
  | .val v => some [.val v]
  | .agg l => some l
  | .tup _ => none
  | .unk => none
  | s => some [s]

theorem cellsOf_rl {ρ : Nat → Nat} {s : SV} {x : Value} {cs : List SV} (h : cellsOf s = some cs) (hr : SV.rl ρ s x) : SV.rls ρ cs x.cells.toList := by
  cases s with
  | val v =>
    simp only [SV.rl] at hr
    subst hr
    cases x <;> simp only [cellsOf, Option.some.injEq] at h <;> first
      | (subst h; simp only [Value.cells]; simpa using rls_vals _)
      | (subst h; simp [Value.cells, SV.rls, SV.rl])
      | simp at h
  | agg l =>
    simp only [SV.rl] at hr
    obtain ⟨xs, rfl, hl⟩ := hr
    simp only [cellsOf, Option.some.injEq] at h
    subst h
    simpa [Value.cells] using hl
  | glob g o => simp only [cellsOf, Option.some.injEq] at h; subst h; simp only [SV.rl] at hr; subst hr; simp [Value.cells, SV.rls, SV.rl]
  | ptr g o => simp only [cellsOf, Option.some.injEq] at h; subst h; simp only [SV.rl] at hr; subst hr; simp [Value.cells, SV.rls, SV.rl]
  | slc i o n =>
    simp only [cellsOf, Option.some.injEq] at h; subst h
    have hr' := hr
    simp only [SV.rl] at hr
    obtain ⟨a, c, rfl, _⟩ := hr
    simp only [Value.cells, SV.rls]; exact ⟨hr', trivial⟩
  | fn f p c =>
    simp only [cellsOf, Option.some.injEq] at h; subst h
    have hr' := hr
    simp only [SV.rl] at hr
    obtain ⟨a, c, rfl, _⟩ := hr
    simp only [Value.cells, SV.rls]; exact ⟨hr', trivial⟩
  | ifc t v =>
    simp only [cellsOf, Option.some.injEq] at h; subst h
    have hr' := hr
    simp only [SV.rl] at hr
    obtain ⟨a, rfl, _⟩ := hr
    simp only [Value.cells, SV.rls]; exact ⟨hr', trivial⟩
  | tup l => simp [cellsOf] at h
  | unk => simp [cellsOf] at h

def one : SV → Bool
  | .val v => v.oneCell'
  | .agg _ => false
  | .tup _ => false
  | .unk => false
  | _ => true
def ones : List SV → Bool
  | [] => true
  | s :: r => one s && ones r
theorem one_rl {ρ : Nat → Nat} {s : SV} {x : Value} (h : one s = true) (hr : SV.rl ρ s x) : x.oneCell' = true := by
  cases s <;> simp only [one] at h <;> simp only [SV.rl] at hr
  · subst hr; exact h
  · subst hr; rfl
  · subst hr; rfl
  · obtain ⟨_, _, rfl, _⟩ := hr; rfl
  · obtain ⟨_, _, rfl, _⟩ := hr; rfl
  · simp at h
  · simp at h
  · obtain ⟨_, rfl, _⟩ := hr; rfl
  · simp at h
theorem ones_rls {ρ : Nat → Nat} : ∀ {l : List SV} {xs : List Value}, ones l = true → SV.rls ρ l xs → ∀ v ∈ xs, v.oneCell' = true
  | [], [], _, _ => by simp
  | s :: r, x :: xs, h, hr => by
    simp only [ones, Bool.and_eq_true] at h
    simp only [SV.rls] at hr
    intro v hv
    simp only [List.mem_cons] at hv
    rcases hv with rfl | hv
    · exact one_rl h.1 hr.1
    · exact ones_rls h.2 hr.2 v hv
  | [], _ :: _, _, h => by simp [SV.rls] at h
  | _ :: _, [], _, h => by simp [SV.rls] at h

end Go.Wk
