/- The walk by evaluation, part A: abstract values, and how they stand for values in memory; The walk by evaluation, part B: memory, and what one operation does; The walk by evaluation, part C: the operations on numbers, addresses and slices; The walk by evaluation, part D: every operation, and that it does in memory what it does here. Conditions: none. -/
import Derived.WalkKit
import Derived.Orders

set_option autoImplicit false
set_option linter.unusedVariables false
set_option linter.unusedSimpArgs false
set_option linter.unnecessarySimpa false
namespace Go.Wk
open Go Go.RowKit

/-- codes of data that lie in memory -/
inductive Cd where
  | int (k : IntKind)
  | bool
  | str
  | list (c : Cd)
  | pair (a b : Cd)
deriving DecidableEq
abbrev Cd.T : Cd → Type
  | .int _ => Int
  | .bool => Bool
  | .str => ByteArray
  | .list c => List c.T
  | .pair a b => a.T × b.T
def Cd.size : Cd → Nat
  | .int _ => 1
  | .bool => 1
  | .str => 1
  | .list _ => 1
  | .pair a b => a.size + b.size
def Cd.dflt : (c : Cd) → c.T
  | .int _ => (0 : Int)
  | .bool => false
  | .str => ByteArray.empty
  | .list _ => []
  | .pair a b => (a.dflt, b.dflt)
/-- a list of one code, taken for one of another, if they are one -/
def castL (c c' : Cd) (xs : List c.T) : Option (List c'.T) := if h : c = c' then some (h ▸ xs) else none
theorem castL_eq {c c' : Cd} {xs : List c.T} {ys : List c'.T} (h : castL c c' xs = some ys) : ∃ e : c = c', e ▸ xs = ys := by
  unfold castL at h
  split at h
  · rename_i e; exact ⟨e, by simpa using h⟩
  · simp at h
abbrev Fz := Nat → Nat → Option Value
def cellsAt (f : Fz) (b o : Nat) (ws : List Value) : Prop := ∀ j v, ws[j]? = some v → f b (o + j) = some v
/-- cells that stand for a datum -/
def rc (f : Fz) : (c : Cd) → c.T → List Value → Prop
  | .int k, (n : Int), vs => vs = [.int k n]
  | .bool, (b : Bool), vs => vs = [.bool b]
  | .str, (s : ByteArray), vs => vs = [.string s]
  | .list c, (xs : List c.T), vs => ∃ (a : Option Addr) (cap : Nat), vs = [.slice a xs.length cap] ∧ xs.length ≤ cap ∧
      ∀ i, (h : i < xs.length) → ∃ b o ws, a = some ⟨b, o, none⟩ ∧ cellsAt f b (o + i * c.size) ws ∧ rc f c xs[i] ws
  | .pair a b, p, vs => ∃ us ws, vs = us ++ ws ∧ rc f a p.1 us ∧ rc f b p.2 ws
def Fz.le (f g : Fz) : Prop := ∀ b o v, f b o = some v → g b o = some v
theorem rc_len {f : Fz} : ∀ {c : Cd} {x : c.T} {vs : List Value}, rc f c x vs → vs.length = c.size
  | .int _, _, _, h => by simp only [rc] at h; subst h; rfl
  | .bool, _, _, h => by simp only [rc] at h; subst h; rfl
  | .str, _, _, h => by simp only [rc] at h; subst h; rfl
  | .list c, xs, vs, h => by simp only [rc] at h; obtain ⟨a, cap, rfl, _⟩ := h; rfl
  | .pair a b, p, vs, h => by
    simp only [rc] at h
    obtain ⟨us, ws, rfl, h1, h2⟩ := h
    rw [List.length_append, rc_len h1, rc_len h2]; rfl
theorem rc_le {f g : Fz} (hl : f.le g) : ∀ {c : Cd} {x : c.T} {vs : List Value}, rc f c x vs → rc g c x vs
  | .int _, _, _, h => by simpa only [rc] using h
  | .bool, _, _, h => by simpa only [rc] using h
  | .str, _, _, h => by simpa only [rc] using h
  | .list c, xs, vs, h => by
    simp only [rc] at h ⊢
    obtain ⟨a, cap, e, hc, h⟩ := h
    refine ⟨a, cap, e, hc, fun i hi => ?_⟩
    obtain ⟨b, o, ws, e1, h1, h2⟩ := h i hi
    exact ⟨b, o, ws, e1, fun j v hv => hl _ _ _ (h1 j v hv), rc_le hl h2⟩
  | .pair a b, p, vs, h => by
    simp only [rc] at h ⊢
    obtain ⟨us, ws, e, h1, h2⟩ := h
    exact ⟨us, ws, e, rc_le hl h1, rc_le hl h2⟩
/-- how abstract memory stands for memory: the blocks, what lies frozen, the lists that may grow -/
structure Rf where
  blk : Nat → Nat
  fz : Fz
  sl : Nat → Option (Nat × Value)
def Rf.le (ρ ρ' : Rf) : Prop := ρ'.blk = ρ.blk ∧ ρ'.sl = ρ.sl ∧ ρ.fz.le ρ'.fz
theorem Rf.le_refl (ρ : Rf) : ρ.le ρ := ⟨rfl, rfl, fun _ _ _ h => h⟩
theorem Rf.le_trans {a b c : Rf} (h : a.le b) (k : b.le c) : a.le c := ⟨k.1.trans h.1, k.2.1.trans h.2.1, fun _ _ _ x => k.2.2 _ _ _ (h.2.2 _ _ _ x)⟩

inductive SV where
  | val (v : Value)
  | glob (g off : Nat)
  | ptr (i off : Nat)
  | slc (i off len : Nat)
  | fn (f : Fn) (first caps : List SV)
  | agg (cs : List SV)
  | tup (vs : List SV)
  | ifc (t : TypeId) (v : SV)
  | unk
  | dl (c : Cd) (xs : List c.T)
  | ep (c : Cd) (y : c.T) (off : Nat)
  | al (k : Nat) (c : Cd) (xs : List c.T)

structure LB where
  cells : List SV
  elem : TypeId

mutual
def SV.rl (ρ : Rf) : SV → Value → Prop
  | .val v, x => x = v
  | .glob g o, x => x = .pointer (some ⟨g, o, none⟩)
  | .ptr i o, x => x = .pointer (some ⟨ρ.blk i, o, none⟩)
  | .slc i o n, x => ∃ (a : Addr) (c : Nat), x = .slice (some a) n c ∧ n ≤ c ∧ (n = 0 ∨ a = ⟨ρ.blk i, o, none⟩)
  | .fn f p c, x => ∃ ps cs : List Value, x = .func f ps.toArray cs.toArray ∧ SV.rls ρ p ps ∧ SV.rls ρ c cs
  | .agg l, x => ∃ xs : List Value, x = .agg xs.toArray ∧ SV.rls ρ l xs
  | .tup l, x => ∃ xs : List Value, x = .tuple xs.toArray ∧ SV.rls ρ l xs
  | .ifc t v, x => ∃ y : Value, x = .iface t y ∧ SV.rl ρ v y
  | .unk, _ => True
  | .dl c xs, x => rc ρ.fz (.list c) xs [x]
  | .ep c y off, x => ∃ b o ws, x = .pointer (some ⟨b, o + off, none⟩) ∧ cellsAt ρ.fz b o ws ∧ rc ρ.fz c y ws
  | .al k c xs, x => ρ.sl k = some (c.size, x) ∧ rc ρ.fz (.list c) xs [x]
def SV.rls (ρ : Rf) : List SV → List Value → Prop
  | [], [] => True
  | c :: cs, x :: xs => SV.rl ρ c x ∧ SV.rls ρ cs xs
  | [], _ :: _ => False
  | _ :: _, [] => False
end

mutual
def SV.free (k : Nat) : SV → Bool
  | .ptr i _ => !(Nat.beq i k)
  | .slc i _ _ => !(Nat.beq i k)
  | .fn _ p c => SV.freeL k p && SV.freeL k c
  | .agg l => SV.freeL k l
  | .tup l => SV.freeL k l
  | .ifc _ v => SV.free k v
  | .val _ => true
  | .glob _ _ => true
  | .unk => true
  | .dl _ _ => true
  | .ep _ _ _ => true
  | .al i _ _ => !(Nat.beq i k)
def SV.freeL (k : Nat) : List SV → Bool
  | [] => true
  | c :: cs => SV.free k c && SV.freeL k cs
end

/- no block from n on is met -/
mutual
def SV.und (n : Nat) : SV → Bool
  | .ptr i _ => Nat.blt i n
  | .slc i _ _ => Nat.blt i n
  | .fn _ p c => SV.undL n p && SV.undL n c
  | .agg l => SV.undL n l
  | .tup l => SV.undL n l
  | .ifc _ v => SV.und n v
  | .val _ => true
  | .glob _ _ => true
  | .unk => true
  | .dl _ _ => true
  | .ep _ _ _ => true
  | .al i _ _ => Nat.blt i n
def SV.undL (n : Nat) : List SV → Bool
  | [] => true
  | c :: cs => SV.und n c && SV.undL n cs
end

def upd (ρ : Rf) (k r : Nat) : Rf := { ρ with blk := fun i => if i = k then r else ρ.blk i }

theorem upd_same (ρ : Rf) (k r : Nat) : (upd ρ k r).blk k = r := by simp [upd]
theorem upd_ne (ρ : Rf) {k r i : Nat} (h : i ≠ k) : (upd ρ k r).blk i = ρ.blk i := by simp [upd, h]
theorem upd_fz (ρ : Rf) (k r : Nat) : (upd ρ k r).fz = ρ.fz := rfl
theorem upd_sl (ρ : Rf) (k r : Nat) : (upd ρ k r).sl = ρ.sl := rfl

mutual
theorem rl_upd (ρ : Rf) (k r : Nat) : ∀ (s : SV) (x : Value), SV.free k s = true → SV.rl ρ s x → SV.rl (upd ρ k r) s x
  | .val v, x, _, h => by simpa [SV.rl] using h
  | .glob g o, x, _, h => by simpa [SV.rl] using h
  | .ptr i o, x, hf, h => by
    have hi : i ≠ k := by intro e; subst e; simp [SV.free] at hf
    simpa [SV.rl, upd_ne ρ hi] using h
  | .slc i o n, x, hf, h => by
    have hi : i ≠ k := by intro e; subst e; simp [SV.free] at hf
    simpa [SV.rl, upd_ne ρ hi] using h
  | .fn f p c, x, hf, h => by
    simp only [SV.free, Bool.and_eq_true] at hf
    simp only [SV.rl] at h ⊢
    obtain ⟨ps, cs, e, hp, hc⟩ := h
    exact ⟨ps, cs, e, rls_upd ρ k r p ps hf.1 hp, rls_upd ρ k r c cs hf.2 hc⟩
  | .agg l, x, hf, h => by
    simp only [SV.free] at hf
    simp only [SV.rl] at h ⊢
    obtain ⟨xs, e, hl⟩ := h
    exact ⟨xs, e, rls_upd ρ k r l xs hf hl⟩
  | .tup l, x, hf, h => by
    simp only [SV.free] at hf
    simp only [SV.rl] at h ⊢
    obtain ⟨xs, e, hl⟩ := h
    exact ⟨xs, e, rls_upd ρ k r l xs hf hl⟩
  | .ifc t v, x, hf, h => by
    simp only [SV.free] at hf
    simp only [SV.rl] at h ⊢
    obtain ⟨y, e, hl⟩ := h
    exact ⟨y, e, rl_upd ρ k r v y hf hl⟩
  | .unk, x, _, h => by simp [SV.rl]
  | .dl c xs, x, _, h => by simpa only [SV.rl, upd_fz] using h
  | .ep c y o, x, _, h => by simpa only [SV.rl, upd_fz] using h
  | .al i c xs, x, _, h => by simpa only [SV.rl, upd_fz, upd_sl] using h
theorem rls_upd (ρ : Rf) (k r : Nat) : ∀ (l : List SV) (xs : List Value), SV.freeL k l = true → SV.rls ρ l xs → SV.rls (upd ρ k r) l xs
  | [], [], _, h => h
  | c :: cs, x :: xs, hf, h => by
    simp only [SV.freeL, Bool.and_eq_true] at hf
    simp only [SV.rls] at h ⊢
    exact ⟨rl_upd ρ k r c x hf.1 h.1, rls_upd ρ k r cs xs hf.2 h.2⟩
  | [], _ :: _, _, h => by simp [SV.rls] at h
  | _ :: _, [], _, h => by simp [SV.rls] at h
end

mutual
theorem rl_le {ρ ρ' : Rf} (hl : ρ.le ρ') : ∀ (s : SV) (x : Value), SV.rl ρ s x → SV.rl ρ' s x
  | .val v, x, h => by simpa [SV.rl] using h
  | .glob g o, x, h => by simpa [SV.rl] using h
  | .ptr i o, x, h => by simpa [SV.rl, hl.1] using h
  | .slc i o n, x, h => by simpa [SV.rl, hl.1] using h
  | .fn f p c, x, h => by
    simp only [SV.rl] at h ⊢
    obtain ⟨ps, cs, e, hp, hc⟩ := h
    exact ⟨ps, cs, e, rls_le hl p ps hp, rls_le hl c cs hc⟩
  | .agg l, x, h => by
    simp only [SV.rl] at h ⊢
    obtain ⟨xs, e, hx⟩ := h
    exact ⟨xs, e, rls_le hl l xs hx⟩
  | .tup l, x, h => by
    simp only [SV.rl] at h ⊢
    obtain ⟨xs, e, hx⟩ := h
    exact ⟨xs, e, rls_le hl l xs hx⟩
  | .ifc t v, x, h => by
    simp only [SV.rl] at h ⊢
    obtain ⟨y, e, hx⟩ := h
    exact ⟨y, e, rl_le hl v y hx⟩
  | .unk, x, h => by simp [SV.rl]
  | .dl c xs, x, h => by simp only [SV.rl] at h ⊢; exact rc_le hl.2.2 h
  | .ep c y off, x, h => by
    simp only [SV.rl] at h ⊢
    obtain ⟨b, o, ws, e, h1, h2⟩ := h
    exact ⟨b, o, ws, e, fun j v hv => hl.2.2 _ _ _ (h1 j v hv), rc_le hl.2.2 h2⟩
  | .al k c xs, x, h => by
    simp only [SV.rl] at h ⊢
    exact ⟨by rw [hl.2.1]; exact h.1, rc_le hl.2.2 h.2⟩
theorem rls_le {ρ ρ' : Rf} (hl : ρ.le ρ') : ∀ (l : List SV) (xs : List Value), SV.rls ρ l xs → SV.rls ρ' l xs
  | [], [], h => h
  | c :: cs, x :: xs, h => by
    simp only [SV.rls] at h ⊢
    exact ⟨rl_le hl c x h.1, rls_le hl cs xs h.2⟩
  | [], _ :: _, h => by simp [SV.rls] at h
  | _ :: _, [], h => by simp [SV.rls] at h
end

/-! lists -/
def nth : List SV → Nat → SV
  | [], _ => .val undef
  | x :: _, 0 => x
  | _ :: r, n + 1 => nth r n
def nth? : List SV → Nat → Option SV
  | [], _ => none
  | x :: _, 0 => some x
  | _ :: r, n + 1 => nth? r n
def setN : List SV → Nat → SV → List SV
  | [], _, _ => []
  | _ :: r, 0, v => v :: r
  | x :: r, n + 1, v => x :: setN r n v
def splice (l : List SV) : Nat → List SV → List SV
  | 0, cs => cs ++ l.drop cs.length
  | o, cs => l.take o ++ (cs ++ l.drop (o + cs.length))

theorem splice_eq (l : List SV) (o : Nat) (cs : List SV) : splice l o cs = l.take o ++ (cs ++ l.drop (o + cs.length)) := by
  cases o <;> simp [splice]

section
variable {ρ : Rf}
theorem rls_len : ∀ {l : List SV} {xs : List Value}, SV.rls ρ l xs → l.length = xs.length
  | [], [], _ => rfl
  | _ :: _, _ :: _, h => by simp only [SV.rls] at h; simp [rls_len h.2]
  | [], _ :: _, h => by simp [SV.rls] at h
  | _ :: _, [], h => by simp [SV.rls] at h
theorem rls_nth : ∀ {l : List SV} {xs : List Value} (t : Nat), SV.rls ρ l xs → SV.rl ρ (nth l t) (xs.getD t undef)
  | [], [], _, _ => by simp [nth, SV.rl]
  | _ :: _, _ :: _, 0, h => by simp only [SV.rls] at h; simpa [nth] using h.1
  | _ :: _, _ :: _, t + 1, h => by simp only [SV.rls] at h; simpa [nth] using rls_nth t h.2
  | [], _ :: _, _, h => by simp [SV.rls] at h
  | _ :: _, [], _, h => by simp [SV.rls] at h
theorem rls_nth? : ∀ {l : List SV} {xs : List Value} {t : Nat} {s : SV}, SV.rls ρ l xs → nth? l t = some s → ∃ x, xs[t]? = some x ∧ SV.rl ρ s x
  | [], [], _, _, _, h => by simp [nth?] at h
  | _ :: _, x :: _, 0, s, h, e => by simp only [SV.rls] at h; simp only [nth?, Option.some.injEq] at e; subst e; exact ⟨x, rfl, h.1⟩
  | _ :: _, _ :: xs, t + 1, s, h, e => by simp only [SV.rls] at h; simp only [nth?] at e; simpa using rls_nth? h.2 e
  | [], _ :: _, _, _, h, _ => by simp [SV.rls] at h
  | _ :: _, [], _, _, h, _ => by simp [SV.rls] at h
theorem rls_set : ∀ {l : List SV} {xs : List Value} (t : Nat) {s : SV} {x : Value}, SV.rls ρ l xs → SV.rl ρ s x → SV.rls ρ (setN l t s) (xs.set t x)
  | [], [], _, _, _, _, _ => by simp [setN, SV.rls]
  | _ :: _, _ :: _, 0, _, _, h, hs => by simp only [SV.rls] at h; simp only [setN, List.set_cons_zero, SV.rls]; exact ⟨hs, h.2⟩
  | _ :: _, _ :: _, t + 1, _, _, h, hs => by simp only [SV.rls] at h; simp only [setN, List.set_cons_succ, SV.rls]; exact ⟨h.1, rls_set t h.2 hs⟩
  | [], _ :: _, _, _, _, h, _ => by simp [SV.rls] at h
  | _ :: _, [], _, _, _, h, _ => by simp [SV.rls] at h
theorem rls_append : ∀ {l m : List SV} {xs ys : List Value}, SV.rls ρ l xs → SV.rls ρ m ys → SV.rls ρ (l ++ m) (xs ++ ys)
  | [], _, [], _, _, h => by simpa using h
  | _ :: _, _, _ :: _, _, h, hm => by simp only [SV.rls] at h; simp only [List.cons_append, SV.rls]; exact ⟨h.1, rls_append h.2 hm⟩
  | [], _, _ :: _, _, h, _ => by simp [SV.rls] at h
  | _ :: _, _, [], _, h, _ => by simp [SV.rls] at h
theorem rls_drop : ∀ {l : List SV} {xs : List Value} (n : Nat), SV.rls ρ l xs → SV.rls ρ (l.drop n) (xs.drop n)
  | [], [], _, _ => by simp [SV.rls]
  | _ :: _, _ :: _, 0, h => by simpa using h
  | _ :: _, _ :: _, n + 1, h => by simp only [SV.rls] at h; simpa using rls_drop n h.2
  | [], _ :: _, _, h => by simp [SV.rls] at h
  | _ :: _, [], _, h => by simp [SV.rls] at h
theorem rls_take : ∀ {l : List SV} {xs : List Value} (n : Nat), SV.rls ρ l xs → SV.rls ρ (l.take n) (xs.take n)
  | [], [], _, _ => by simp [SV.rls]
  | _ :: _, _ :: _, 0, h => by simp [SV.rls]
  | _ :: _, _ :: _, n + 1, h => by simp only [SV.rls] at h; simp only [List.take_succ_cons, SV.rls]; exact ⟨h.1, rls_take n h.2⟩
  | [], _ :: _, _, h => by simp [SV.rls] at h
  | _ :: _, [], _, h => by simp [SV.rls] at h
theorem rls_vals : ∀ (xs : List Value), SV.rls ρ (xs.map .val) xs
  | [] => by simp [SV.rls]
  | x :: xs => by simp only [List.map_cons, SV.rls, SV.rl]; exact ⟨trivial, rls_vals xs⟩
theorem rls_splice {l cs : List SV} {xs ys : List Value} (o : Nat) (h : SV.rls ρ l xs) (hc : SV.rls ρ cs ys) :
    SV.rls ρ (splice l o cs) (xs.take o ++ (ys ++ xs.drop (o + ys.length))) := by
  rw [splice_eq, rls_len hc]
  exact rls_append (rls_take _ h) (rls_append hc (rls_drop _ h))
end

def vals : List SV → Option (List Value)
  | [] => some []
  | .val v :: r => match vals r with
    | some vs => some (v :: vs)
    | none => none
  | _ => none

theorem vals_rls {ρ : Rf} : ∀ {l : List SV} {vs xs : List Value}, vals l = some vs → SV.rls ρ l xs → xs = vs
  | [], vs, [], h, _ => by simp [vals] at h; exact h.symm
  | .val v :: r, vs, x :: xs, h, hr => by
    simp only [SV.rls, SV.rl] at hr
    obtain ⟨rfl, hr⟩ := hr
    simp only [vals] at h
    split at h
    · rename_i ws hw
      simp only [Option.some.injEq] at h
      subst h
      rw [vals_rls hw hr]
    · simp at h
  | [], _, _ :: _, _, h => by simp [SV.rls] at h
  | .val _ :: _, _, [], _, h => by simp [SV.rls] at h
  | .glob _ _ :: _, _, _, h, _ | .ptr _ _ :: _, _, _, h, _ | .slc _ _ _ :: _, _, _, h, _ | .fn _ _ _ :: _, _, _, h, _ | .agg _ :: _, _, _, h, _
  | .tup _ :: _, _, _, h, _ | .ifc _ _ :: _, _, _, h, _ | .unk :: _, _, _, h, _ | .dl _ _ :: _, _, _, h, _ | .ep _ _ _ :: _, _, _, h, _ | .al _ _ _ :: _, _, _, h, _ => by simp [vals] at h

def mkAgg (l : List SV) : SV := match vals l with
  | some vs => .val (.agg vs.toArray)
  | none => .agg l
def mkTup (l : List SV) : SV := match vals l with
  | some vs => .val (.tuple vs.toArray)
  | none => .tup l
def mkFn (f : Fn) (p c : List SV) : SV := match vals p with
  | some ps => match vals c with
    | some cs => .val (.func f ps.toArray cs.toArray)
    | none => .fn f p c
  | none => .fn f p c
section
variable {ρ : Rf}
theorem mkAgg_rl {l : List SV} {xs : List Value} (h : SV.rls ρ l xs) : SV.rl ρ (mkAgg l) (.agg xs.toArray) := by
  unfold mkAgg
  split
  · rename_i vs hv; rw [vals_rls hv h]; simp [SV.rl]
  · simp only [SV.rl]; exact ⟨xs, rfl, h⟩
theorem mkTup_rl {l : List SV} {xs : List Value} (h : SV.rls ρ l xs) : SV.rl ρ (mkTup l) (.tuple xs.toArray) := by
  unfold mkTup
  split
  · rename_i vs hv; rw [vals_rls hv h]; simp [SV.rl]
  · simp only [SV.rl]; exact ⟨xs, rfl, h⟩
theorem mkFn_rl {f : Fn} {p c : List SV} {ps cs : List Value} (hp : SV.rls ρ p ps) (hc : SV.rls ρ c cs) : SV.rl ρ (mkFn f p c) (.func f ps.toArray cs.toArray) := by
  unfold mkFn
  split
  · rename_i vs hv
    split
    · rename_i ws hw; rw [vals_rls hv hp, vals_rls hw hc]; simp [SV.rl]
    · simp only [SV.rl]; exact ⟨ps, cs, rfl, hp, hc⟩
  · simp only [SV.rl]; exact ⟨ps, cs, rfl, hp, hc⟩
end

/-- the cells of a value -/
def cellsOf : SV → Option (List SV)
  | .val (.agg a) => some (a.toList.map .val)
  | .val (.tuple _) => none
  | .val v => some [.val v]
  | .agg l => some l
  | .tup _ => none
  | .unk => none
  | s => some [s]

theorem cellsOf_rl {ρ : Rf} {s : SV} {x : Value} {cs : List SV} (h : cellsOf s = some cs) (hr : SV.rl ρ s x) : SV.rls ρ cs x.cells.toList := by
  cases s with
  | val v =>
    simp only [SV.rl] at hr
    subst hr
    cases x <;> simp only [cellsOf, Option.some.injEq] at h <;> first
      | (subst h; simp only [Value.cells]; simpa using rls_vals _)
      | (subst h; simp [Value.cells, SV.rls, SV.rl])
      | simp at h
  | agg l =>
    simp only [SV.rl] at hr
    obtain ⟨xs, rfl, hl⟩ := hr
    simp only [cellsOf, Option.some.injEq] at h
    subst h
    simpa [Value.cells] using hl
  | glob g o => simp only [cellsOf, Option.some.injEq] at h; subst h; simp only [SV.rl] at hr; subst hr; simp [Value.cells, SV.rls, SV.rl]
  | ptr g o => simp only [cellsOf, Option.some.injEq] at h; subst h; simp only [SV.rl] at hr; subst hr; simp [Value.cells, SV.rls, SV.rl]
  | slc i o n =>
    simp only [cellsOf, Option.some.injEq] at h; subst h
    have hr' := hr
    simp only [SV.rl] at hr
    obtain ⟨a, c, rfl, _⟩ := hr
    simp only [Value.cells, SV.rls]; exact ⟨hr', trivial⟩
  | fn f p c =>
    simp only [cellsOf, Option.some.injEq] at h; subst h
    have hr' := hr
    simp only [SV.rl] at hr
    obtain ⟨a, c, rfl, _⟩ := hr
    simp only [Value.cells, SV.rls]; exact ⟨hr', trivial⟩
  | ifc t v =>
    simp only [cellsOf, Option.some.injEq] at h; subst h
    have hr' := hr
    simp only [SV.rl] at hr
    obtain ⟨a, rfl, _⟩ := hr
    simp only [Value.cells, SV.rls]; exact ⟨hr', trivial⟩
  | tup l => simp [cellsOf] at h
  | unk => simp [cellsOf] at h
  | dl c xs =>
    simp only [cellsOf, Option.some.injEq] at h; subst h
    have hr' := hr
    simp only [SV.rl, rc] at hr
    obtain ⟨a, cap, e, _⟩ := hr
    simp only [List.cons.injEq, and_true] at e
    subst e
    simp only [Value.cells, SV.rls]; exact ⟨hr', trivial⟩
  | ep c y o =>
    simp only [cellsOf, Option.some.injEq] at h; subst h
    have hr' := hr
    simp only [SV.rl] at hr
    obtain ⟨_, _, _, rfl, _⟩ := hr
    simp only [Value.cells, SV.rls]; exact ⟨hr', trivial⟩
  | al k c xs =>
    simp only [cellsOf, Option.some.injEq] at h; subst h
    have hr' := hr
    simp only [SV.rl, rc] at hr
    obtain ⟨_, a, cap, e, _⟩ := hr
    simp only [List.cons.injEq, and_true] at e
    subst e
    simp only [Value.cells, SV.rls]; exact ⟨hr', trivial⟩

def one : SV → Bool
  | .val v => v.oneCell'
  | .agg _ => false
  | .tup _ => false
  | .unk => false
  | _ => true
def ones : List SV → Bool
  | [] => true
  | s :: r => one s && ones r
theorem one_rl {ρ : Rf} {s : SV} {x : Value} (h : one s = true) (hr : SV.rl ρ s x) : x.oneCell' = true := by
  cases s <;> simp only [one] at h <;> simp only [SV.rl] at hr
  · subst hr; exact h
  · subst hr; rfl
  · subst hr; rfl
  · obtain ⟨_, _, rfl, _⟩ := hr; rfl
  · obtain ⟨_, _, rfl, _⟩ := hr; rfl
  · simp at h
  · simp at h
  · obtain ⟨_, rfl, _⟩ := hr; rfl
  · simp at h
  · obtain ⟨_, _, e, _⟩ := hr; simp only [List.cons.injEq, and_true] at e; subst e; rfl
  · obtain ⟨_, _, _, rfl, _⟩ := hr; rfl
  · obtain ⟨_, _, _, e, _⟩ := hr; simp only [List.cons.injEq, and_true] at e; subst e; rfl
theorem ones_rls {ρ : Rf} : ∀ {l : List SV} {xs : List Value}, ones l = true → SV.rls ρ l xs → ∀ v ∈ xs, v.oneCell' = true
  | [], [], _, _ => by simp
  | s :: r, x :: xs, h, hr => by
    simp only [ones, Bool.and_eq_true] at h
    simp only [SV.rls] at hr
    intro v hv
    simp only [List.mem_cons] at hv
    rcases hv with rfl | hv
    · exact one_rl h.1 hr.1
    · exact ones_rls h.2 hr.2 v hv
  | [], _ :: _, _, h => by simp [SV.rls] at h
  | _ :: _, [], _, h => by simp [SV.rls] at h

end Go.Wk


set_option autoImplicit false
set_option linter.unusedVariables false
set_option linter.unusedSimpArgs false
set_option linter.unnecessarySimpa false
namespace Go.Wk
open Go Go.RowKit

abbrev Glob := List (Nat × List Value)
abbrev Tab := FuncId → Option (List SV → Option (Bool × SV))

def blk? : List (Option LB) → Nat → Option LB
  | [], _ => none
  | x :: _, 0 => x
  | _ :: r, n + 1 => blk? r n
def setB : List (Option LB) → Nat → LB → List (Option LB)
  | [], _, _ => []
  | _ :: r, 0, b => some b :: r
  | x :: r, n + 1, b => x :: setB r n b
def lookG : Glob → Nat → Option (List Value)
  | [], _ => none
  | (g, cs) :: r, n => bif Nat.beq g n then some cs else lookG r n

theorem blk?_eq : ∀ (l : List (Option LB)) (n : Nat), blk? l n = (l[n]?).join
  | [], _ => by simp [blk?]
  | x :: _, 0 => by simp [blk?]
  | _ :: r, n + 1 => by simp [blk?, blk?_eq r n]
theorem setB_eq : ∀ (l : List (Option LB)) (n : Nat) (b : LB), setB l n b = l.set n (some b)
  | [], _, _ => by simp [setB]
  | x :: _, 0, _ => by simp [setB]
  | _ :: r, n + 1, b => by simp [setB, setB_eq r n b]
theorem blk?_setB {l : List (Option LB)} {n : Nat} {b : LB} (m : Nat) (h : n < l.length) : blk? (setB l n b) m = if m = n then some b else blk? l m := by
  rw [blk?_eq, setB_eq, blk?_eq, List.getElem?_set]
  by_cases e : n = m
  · subst e; simp [h]
  · simp [e, Ne.symm e]
theorem lookG_mem : ∀ {G : Glob} {g : Nat} {cs : List Value}, lookG G g = some cs → (g, cs) ∈ G
  | [], _, _, h => by simp [lookG] at h
  | (k, c) :: r, g, cs, h => by
    simp only [lookG] at h
    cases e : Nat.beq k g with
    | true => simp [e] at h; have := Nat.eq_of_beq_eq_true e; subst this; subst h; simp
    | false => simp [e] at h; exact List.mem_cons_of_mem _ (lookG_mem h)

/-- a variable's block holds just these cells -/
def GCell (w : World) (g : Nat) (cs : List Value) : Prop := ∃ t fr, w.heap[g]? = some (.cells cs.toArray t fr)
theorem GCell.cell {w : World} {g : Nat} {cs : List Value} (h : GCell w g cs) {o : Nat} {v : Value} (hv : cs[o]? = some v) : w.cell? ⟨g, o, none⟩ = some v := by
  obtain ⟨t, fr, hh⟩ := h
  simp [World.cell?, hh, hv]
theorem GCell.lt {w : World} {g : Nat} {cs : List Value} (h : GCell w g cs) : g < w.heap.size := by
  obtain ⟨t, fr, hh⟩ := h
  rcases Nat.lt_or_ge g w.heap.size with h' | h'
  · exact h'
  · simp [Array.getElem?_eq_none h'] at hh
theorem GCell.below {w w' : World} {g n : Nat} {cs : List Value} (h : GCell w g cs) (B : Below n w w') (hn : g < n) : GCell w' g cs := by
  obtain ⟨t, fr, hh⟩ := h
  exact ⟨t, fr, by rw [B.block g hn]; exact hh⟩
/-- the blocks of X stay as they are -/
structure Kp (X : Nat → Prop) (w w' : World) : Prop where
  os : w'.os = w.os
  tape : w'.tape = w.tape
  output : w'.output = w.output
  size : w.heap.size ≤ w'.heap.size
  block : ∀ k, X k → w'.heap[k]? = w.heap[k]?
theorem Kp.refl (X : Nat → Prop) (w : World) : Kp X w w := ⟨rfl, rfl, rfl, Nat.le_refl _, fun _ _ => rfl⟩
theorem Kp.drew (X : Nat → Prop) (w : World) : Kp X w w.drew := ⟨rfl, rfl, rfl, Nat.le_refl _, fun _ _ => rfl⟩
theorem Kp.trans {X : Nat → Prop} {a b c : World} (h : Kp X a b) (k : Kp X b c) : Kp X a c :=
  ⟨k.os.trans h.os, k.tape.trans h.tape, k.output.trans h.output, Nat.le_trans h.size k.size, fun i hi => (k.block i hi).trans (h.block i hi)⟩
theorem Kp.mono {X Y : Nat → Prop} {w w' : World} (h : Kp X w w') (hY : ∀ k, Y k → X k) : Kp Y w w' := ⟨h.os, h.tape, h.output, h.size, fun k hk => h.block k (hY k hk)⟩
theorem below_base {w w' : World} {X : Nat → Prop} (hb : Below w.heap.size w w') (h : ∀ k, X k → k < w.heap.size) : Kp X w w' :=
  ⟨hb.os, hb.tape, hb.output, hb.size, fun k hk => hb.block k (h k hk)⟩
theorem kp_below {w w' : World} {n : Nat} (h : Kp (fun k => k < n) w w') : Below n w w' := ⟨h.os, h.tape, h.output, h.size, h.block⟩
/-- what a walk leaves as it was: blocks; and what of it lay frozen at its start -/
structure Bs where
  kp : Nat → Prop
  f0 : Fz
/-- the block that a list which may grow fills -/
def tailB : Value → Option Nat
  | .slice (some a) _ (_ + 1) => some a.block
  | _ => none
/-- a list that may grow: behind its end its block is its own -/
structure Tail (base : Bs) (ρ : Rf) (bl : List (Option LB)) (w : World) (s : Nat) (v : Value) : Prop where
  shape : ∃ a n cap, v = .slice a n cap ∧ n ≤ cap ∧ (cap = 0 ∨ 0 < cap ∧ ∃ g cur t, a = some ⟨g, 0, none⟩ ∧ w.heap[g]? = some (.cells cur t (0, 0)) ∧ cur.size = cap * s ∧ ¬ base.kp g ∧
    (∀ o, n * s ≤ o → ρ.fz g o = none) ∧ ∀ i b, blk? bl i = some b → ρ.blk i ≠ g)
/-- How abstract memory stands for memory. -/
structure MRel (G : Glob) (base : Bs) (ρ : Rf) (bl : List (Option LB)) (w : World) : Prop where
  gl : ∀ g cs, (g, cs) ∈ G → GCell w g cs
  glt : ∀ g cs, (g, cs) ∈ G → base.kp g
  bk : ∀ i b, blk? bl i = some b → ∃ xs : List Value, w.heap[ρ.blk i]? = some (.cells xs.toArray b.elem (0, 0)) ∧ SV.rls ρ b.cells xs ∧ ¬ base.kp (ρ.blk i)
  inj : ∀ i j b c, blk? bl i = some b → blk? bl j = some c → ρ.blk i = ρ.blk j → i = j
  sz : ∀ k, base.kp k → k < w.heap.size
  fz : ∀ b o v, ρ.fz b o = some v → w.cell? ⟨b, o, none⟩ = some v
  fn : ∀ i b, blk? bl i = some b → ∀ o, ρ.fz (ρ.blk i) o = none
  fb : ∀ b o v, ρ.fz b o = some v → base.kp b → base.f0 b o = some v
  tk : ∀ k s v, ρ.sl k = some (s, v) → Tail base ρ bl w s v
  ti : ∀ k k' s s' v v' b, ρ.sl k = some (s, v) → ρ.sl k' = some (s', v') → tailB v = some b → tailB v' = some b → k = k'

theorem cell_lt {w : World} {b o : Nat} {v : Value} (h : w.cell? ⟨b, o, none⟩ = some v) : b < w.heap.size := by
  rcases Nat.lt_or_ge b w.heap.size with h' | h'
  · exact h'
  · simp [World.cell?, Array.getElem?_eq_none h'] at h
theorem heap_lt {w : World} {b : Nat} {o : Obj} (h : w.heap[b]? = some o) : b < w.heap.size := (Array.getElem?_eq_some_iff.1 h).1
theorem cell_of_heap {w w' : World} {b : Nat} (h : w'.heap[b]? = w.heap[b]?) (o : Nat) : w'.cell? ⟨b, o, none⟩ = w.cell? ⟨b, o, none⟩ := by simp only [World.cell?, h]

theorem MRel.lt {G : Glob} {base : Bs} {ρ : Rf} {bl : List (Option LB)} {w : World} (M : MRel G base ρ bl w) {i : Nat} {b : LB} (h : blk? bl i = some b) : ρ.blk i < w.heap.size := by
  obtain ⟨xs, hx, _⟩ := M.bk i b h
  exact heap_lt hx
theorem MRel.fzlt {G : Glob} {base : Bs} {ρ : Rf} {bl : List (Option LB)} {w : World} (M : MRel G base ρ bl w) {b o : Nat} {v : Value} (h : ρ.fz b o = some v) : b < w.heap.size := cell_lt (M.fz _ _ _ h)
theorem Tail.move {base : Bs} {ρ ρ' : Rf} {bl bl' : List (Option LB)} {w w' : World} {s : Nat} {v : Value} (h : Tail base ρ bl w s v)
    (hb : ∀ g, tailB v = some g → g < w.heap.size → ¬ base.kp g → (∀ i b, blk? bl i = some b → ρ.blk i ≠ g) → w'.heap[g]? = w.heap[g]? ∧ (∀ o, ρ.fz g o = none → ρ'.fz g o = none) ∧ ∀ i b, blk? bl' i = some b → ρ'.blk i ≠ g) : Tail base ρ' bl' w' s v := by
  obtain ⟨a, n, cap, rfl, hn, h⟩ := h.shape
  refine ⟨a, n, cap, rfl, hn, h.imp id ?_⟩
  rintro ⟨hc, g, cur, t, rfl, hg, h1, h2, h3, h4⟩
  obtain ⟨e1, e2, e3⟩ := hb g (by obtain ⟨c, rfl⟩ : ∃ c, cap = c + 1 := ⟨cap - 1, by omega⟩
                                  rfl) (heap_lt hg) h2 h4
  exact ⟨hc, g, cur, t, rfl, by rw [e1]; exact hg, h1, h2, fun o ho => e2 o (h3 o ho), e3⟩

/-- What leaves all that was there alone. -/
theorem MRel.below {G : Glob} {base : Bs} {ρ : Rf} {bl : List (Option LB)} {w w' : World} (M : MRel G base ρ bl w) (B : Below w.heap.size w w') : MRel G base ρ bl w' where
  gl g cs hg := (M.gl g cs hg).below B (M.gl g cs hg).lt
  glt := M.glt
  bk i b h := by
    obtain ⟨xs, hx, hr, hb⟩ := M.bk i b h
    exact ⟨xs, by rw [B.block _ (M.lt h)]; exact hx, hr, hb⟩
  inj := M.inj
  sz k hk := Nat.lt_of_lt_of_le (M.sz k hk) B.size
  fz b o v h := (cell_of_heap (B.block b (M.fzlt h)) o).trans (M.fz b o v h)
  fn := M.fn
  fb := M.fb
  tk k s v h := (M.tk k s v h).move fun g _ hl _ h4 => ⟨B.block g hl, fun _ h => h, h4⟩
  ti := M.ti

theorem MRel.drop {G : Glob} {base : Bs} {ρ : Rf} {bl bl' : List (Option LB)} {w : World} (M : MRel G base ρ bl w) (h : ∀ i b, blk? bl' i = some b → blk? bl i = some b) : MRel G base ρ bl' w where
  gl := M.gl
  glt := M.glt
  bk i b hb := M.bk i b (h i b hb)
  inj i j b c hi hj := M.inj i j b c (h _ _ hi) (h _ _ hj)
  sz := M.sz
  fz := M.fz
  fn i b hb := M.fn i b (h i b hb)
  fb := M.fb
  tk k s v hk := (M.tk k s v hk).move fun g _ _ _ h4 => ⟨rfl, fun _ h => h, fun i b hb => h4 i b (h i b hb)⟩
  ti := M.ti

/-- a call: what it made lies frozen -/
def Rf.grow (ρ : Rf) (w w' : World) : Rf := { ρ with fz := fun b o => if b < w.heap.size then ρ.fz b o else w'.cell? ⟨b, o, none⟩ }
theorem MRel.grow_le {G : Glob} {base : Bs} {ρ : Rf} {bl : List (Option LB)} {w : World} (M : MRel G base ρ bl w) (w' : World) : ρ.le (ρ.grow w w') :=
  ⟨rfl, rfl, fun b o v h => by simp only [Rf.grow, M.fzlt h, if_true, h]⟩
theorem MRel.grow {G : Glob} {base : Bs} {ρ : Rf} {bl : List (Option LB)} {w w' : World} (M : MRel G base ρ bl w) (B : Below w.heap.size w w') : MRel G base (ρ.grow w w') bl w' where
  gl g cs hg := (M.gl g cs hg).below B (M.gl g cs hg).lt
  glt := M.glt
  bk i b h := by
    obtain ⟨xs, hx, hr, hb⟩ := M.bk i b h
    exact ⟨xs, by show w'.heap[ρ.blk i]? = _; rw [B.block _ (M.lt h)]; exact hx, rls_le (M.grow_le w') _ _ hr, hb⟩
  inj := M.inj
  sz k hk := Nat.lt_of_lt_of_le (M.sz k hk) B.size
  fz b o v h := by
    simp only [Rf.grow] at h
    split at h
    · exact (cell_of_heap (B.block b (M.fzlt h)) o).trans (M.fz b o v h)
    · exact h
  fn i b hb o := by
    have := M.lt hb
    show (if ρ.blk i < w.heap.size then ρ.fz (ρ.blk i) o else _) = none
    rw [if_pos this]
    exact M.fn i b hb o
  fb b o v h hk := by
    simp only [Rf.grow, M.sz b hk, if_true] at h
    exact M.fb b o v h hk
  tk k s v h := (M.tk k s v h).move fun g _ hl _ h4 => ⟨B.block g hl, fun o h => by simp only [Rf.grow, hl, if_true, h], h4⟩
  ti := M.ti

def freeB (k : Nat) : List (Option LB) → Bool
  | [] => true
  | none :: r => freeB k r
  | some b :: r => SV.freeL k b.cells && freeB k r
theorem freeB_at : ∀ {k : Nat} {bl : List (Option LB)} {i : Nat} {b : LB}, freeB k bl = true → blk? bl i = some b → SV.freeL k b.cells = true
  | _, [], _, _, _, h => by simp [blk?] at h
  | k, x :: r, 0, b, hf, h => by simp only [blk?] at h; subst h; simp only [freeB, Bool.and_eq_true] at hf; exact hf.1
  | k, none :: r, n + 1, b, hf, h => by simp only [blk?] at h; simp only [freeB] at hf; exact freeB_at hf h
  | k, some c :: r, n + 1, b, hf, h => by simp only [blk?] at h; simp only [freeB, Bool.and_eq_true] at hf; exact freeB_at hf.2 h

theorem alloc_below (w : World) (o : Obj) : Below w.heap.size w (w.alloc o) := (Below.refl _ _).alloc (Nat.le_refl _) o

theorem MRel.new {G : Glob} {base : Bs} {ρ : Rf} {bl : List (Option LB)} {w : World} (M : MRel G base ρ bl w) {k : Nat} {cs : List SV} {xs : List Value} {e : TypeId}
    (hk : k < bl.length) (hn : blk? bl k = none) (hf : freeB k bl = true) (hc : SV.rls ρ cs xs) (hcf : SV.freeL k cs = true) :
    MRel G base (upd ρ k w.heap.size) (setB bl k ⟨cs, e⟩) (w.alloc (.cells xs.toArray e)) where
  gl := (M.below (alloc_below w _)).gl
  glt := M.glt
  bk i b h := by
    rw [blk?_setB i hk] at h
    by_cases e' : i = k
    · subst e'
      simp only [if_true, Option.some.injEq] at h
      subst h
      exact ⟨xs, by rw [upd_same]; show (w.heap.push _)[w.heap.size]? = _; simp, rls_upd ρ i _ cs xs hcf hc, by rw [upd_same]; exact fun hb => Nat.lt_irrefl _ (M.sz _ hb)⟩
    · simp only [e', if_false] at h
      obtain ⟨ys, hy, hr, hb⟩ := M.bk i b h
      refine ⟨ys, ?_, rls_upd ρ k _ _ _ (freeB_at hf h) hr, by rw [upd_ne ρ e']; exact hb⟩
      rw [upd_ne ρ e', (alloc_below w _).block _ (M.lt h)]
      exact hy
  inj i j b c hi hj hij := by
    rw [blk?_setB _ hk] at hi hj
    by_cases ei : i = k <;> by_cases ej : j = k
    · rw [ei, ej]
    · simp only [ej, if_false] at hj
      subst ei
      rw [upd_same, upd_ne ρ ej] at hij
      have := M.lt hj
      omega
    · simp only [ei, if_false] at hi
      subst ej
      rw [upd_same, upd_ne ρ ei] at hij
      have := M.lt hi
      omega
    · simp only [ei, if_false] at hi
      simp only [ej, if_false] at hj
      rw [upd_ne ρ ei, upd_ne ρ ej] at hij
      exact M.inj i j b c hi hj hij
  sz j hj := by simp; have := M.sz j hj; omega
  fz b o v h := by
    rw [upd_fz] at h
    exact (cell_of_heap ((alloc_below w _).block b (M.fzlt h)) o).trans (M.fz b o v h)
  fn i b h o := by
    rw [blk?_setB i hk] at h
    rw [upd_fz]
    by_cases e' : i = k
    · subst e'
      rw [upd_same]
      cases hz : ρ.fz w.heap.size o with
      | none => rfl
      | some v => exact absurd (M.fzlt hz) (Nat.lt_irrefl _)
    · simp only [e', if_false] at h
      rw [upd_ne ρ e']
      exact M.fn i b h o
  fb := M.fb
  tk j s v h := (M.tk j s v h).move fun g _ hl _ h4 => ⟨(alloc_below w _).block g hl, fun o h => h, fun i b h => by
    rw [blk?_setB i hk] at h
    by_cases e' : i = k
    · subst e'; rw [upd_same]; omega
    · simp only [e', if_false] at h; rw [upd_ne ρ e']; exact h4 i b h⟩
  ti := M.ti

theorem setRow_keep (w : World) (g : Nat) (c : Array Value) : Kp (fun k => k ≠ g) w (w.setRow g c) := by
  refine ⟨rfl, rfl, rfl, ?_, ?_⟩
  · simp [World.setRow]
  · intro k hk
    simp only [World.setRow, Array.getElem?_modify]
    rw [if_neg (fun h => hk h.symm)]
theorem setRow_below (w : World) (g : Nat) (base : Bs) (c : Array Value) (h : ¬ base.kp g) : Kp base.kp w (w.setRow g c) :=
  (setRow_keep w g c).mono fun k hk e => h (e ▸ hk)

theorem MRel.put {G : Glob} {base : Bs} {ρ : Rf} {bl : List (Option LB)} {w : World} (M : MRel G base ρ bl w) {i o : Nat} {b : LB} {cs : List SV} {xs ys : List Value}
    (hb : blk? bl i = some b) (hx : w.heap[ρ.blk i]? = some (.cells xs.toArray b.elem (0, 0))) (hr : SV.rls ρ b.cells xs) (hc : SV.rls ρ cs ys) :
    MRel G base ρ (setB bl i ⟨splice b.cells o cs, b.elem⟩) (w.setRow (ρ.blk i) (xs.take o ++ (ys ++ xs.drop (o + ys.length))).toArray) := by
  have hbase := (M.bk i b hb).choose_spec.2.2
  have K := setRow_keep w (ρ.blk i) (xs.take o ++ (ys ++ xs.drop (o + ys.length))).toArray
  have hk : i < bl.length := by
    rcases Nat.lt_or_ge i bl.length with h' | h'
    · exact h'
    · rw [blk?_eq, List.getElem?_eq_none h'] at hb; simp at hb
  have live : ∀ j c, blk? (setB bl i ⟨splice b.cells o cs, b.elem⟩) j = some c → ∃ c', blk? bl j = some c' := by
    intro j c h
    rw [blk?_setB j hk] at h
    by_cases e : j = i
    · subst e; exact ⟨b, hb⟩
    · simp only [e, if_false] at h; exact ⟨c, h⟩
  refine ⟨?_, M.glt, ?_, ?_, ?_, ?_, ?_, M.fb, ?_, M.ti⟩
  · intro g c hg
    obtain ⟨t, fr, hh⟩ := M.gl g c hg
    exact ⟨t, fr, by rw [K.block g (fun e => hbase (e ▸ M.glt g c hg))]; exact hh⟩
  · intro j c h
    rw [blk?_setB j hk] at h
    by_cases e : j = i
    · subst e
      simp only [if_true, Option.some.injEq] at h
      subst h
      refine ⟨_, ?_, rls_splice o hr hc, hbase⟩
      simp [World.setRow, Array.getElem?_modify, hx]
    · simp only [e, if_false] at h
      obtain ⟨zs, hz, hrz, hbz⟩ := M.bk j c h
      refine ⟨zs, ?_, hrz, hbz⟩
      have hne : ρ.blk i ≠ ρ.blk j := fun hij => e (M.inj j i c b h hb hij.symm)
      rw [K.block _ (Ne.symm hne)]
      exact hz
  · intro j k c d hj hk' hjk
    obtain ⟨c', hj⟩ := live _ _ hj
    obtain ⟨d', hk'⟩ := live _ _ hk'
    exact M.inj j k c' d' hj hk' hjk
  · intro k hk'; exact Nat.lt_of_lt_of_le (M.sz k hk') K.size
  · intro b' o' v h
    have hne : b' ≠ ρ.blk i := fun e => by rw [e, M.fn i b hb o'] at h; simp at h
    exact (cell_of_heap (K.block b' hne) o').trans (M.fz b' o' v h)
  · intro j c h o'
    obtain ⟨c', h⟩ := live _ _ h
    exact M.fn j c' h o'
  · intro k s v h
    refine (M.tk k s v h).move fun g _ hl _ h4 => ⟨K.block g (Ne.symm (h4 i b hb)), fun _ h => h, fun j c h => ?_⟩
    obtain ⟨c', h⟩ := live _ _ h
    exact h4 j c' h

/-- where a fresh address or a slice's element lies -/
theorem add_eq (b o n : Nat) : (⟨b, o, none⟩ : Addr).add n = ⟨b, o + n, none⟩ := Addr.add_lit b o n

/-! loads -/
/-- a datum's cells -/
def cellsD : (c : Cd) → c.T → List SV
  | .int k, (n : Int) => [.val (.int k n)]
  | .bool, (b : Bool) => [.val (.bool b)]
  | .str, (s : ByteArray) => [.val (.string s)]
  | .list c, (xs : List c.T) => [.dl c xs]
  | .pair a b, p => cellsD a p.1 ++ cellsD b p.2
theorem cellsD_rls {ρ : Rf} : ∀ {c : Cd} {y : c.T} {vs : List Value}, rc ρ.fz c y vs → SV.rls ρ (cellsD c y) vs
  | .int k, n, vs, h => by simp only [rc] at h; subst h; simp [cellsD, SV.rls, SV.rl]
  | .bool, b, vs, h => by simp only [rc] at h; subst h; simp [cellsD, SV.rls, SV.rl]
  | .str, s, vs, h => by simp only [rc] at h; subst h; simp [cellsD, SV.rls, SV.rl]
  | .list c, xs, vs, h => by
    have h' := h
    simp only [rc] at h
    obtain ⟨a, cap, rfl, _⟩ := h
    simp only [cellsD, SV.rls, SV.rl, and_true]
    exact h'
  | .pair a b, p, vs, h => by
    simp only [rc] at h
    obtain ⟨us, ws, rfl, h1, h2⟩ := h
    exact rls_append (cellsD_rls h1) (cellsD_rls h2)
def agK (P : Program) (t : TypeId) : Option Bool := match P.underlying t with
  | some (.struct _) => some true
  | some (.array _ _) => some true
  | some _ => some false
  | none => none
def szOf (P : Program) (t : TypeId) : Option Nat := match P.info? t with
  | some i => some i.size
  | none => none
def loadL (cells : List SV) (o : Nat) (ag : Bool) (sz : Nat) : Option SV :=
  bif ag then (bif Nat.ble (o + sz) cells.length then some (mkAgg ((cells.drop o).take sz)) else none) else nth? cells o
def loadE (P : Program) (G : Glob) (bl : List (Option LB)) (t : TypeId) (s : SV) : Option SV :=
  match agK P t with
  | none => none
  | some ag => match szOf P t with
    | none => none
    | some sz => match s with
      | .ptr i o => match blk? bl i with
        | some b => loadL b.cells o ag sz
        | none => none
      | .glob g o => match lookG G g with
        | some cs => loadL (cs.map .val) o ag sz
        | none => none
      | .ep c y o => loadL (cellsD c y) o ag sz
      | _ => none

theorem run_isAgg {P : Program} {t : TypeId} {ag : Bool} (h : agK P t = some ag) (w : World) : (isAgg t).run P w = .ok ag w := by
  unfold agK at h
  cases hu : P.underlying t with
  | none => simp [hu] at h
  | some d =>
    simp only [hu] at h
    simp only [isAgg, Sem.run_bind, run_underlying hu, Result.andThen_ok]
    cases d <;> simp_all
theorem run_sizeOf {P : Program} {t : TypeId} {sz : Nat} (h : szOf P t = some sz) (w : World) : (sizeOf t).run P w = .ok sz w := by
  unfold szOf at h
  cases hu : P.info? t with
  | none => simp [hu] at h
  | some i => simp only [hu, Option.some.injEq] at h; subst h; simp [sizeOf, typeInfo, hu]

theorem loadL_run {P : Program} {ρ : Rf} {cells : List SV} {xs : List Value} {o : Nat} {ag : Bool} {sz : Nat} {t : TypeId} {s : SV} {w : World} {r r0 : Nat}
    (hr : SV.rls ρ cells xs) (hw : ∀ j v, xs[j]? = some v → w.cell? ⟨r, r0 + j, none⟩ = some v) (ha : agK P t = some ag) (hs : szOf P t = some sz) (h : loadL cells o ag sz = some s) :
    ∃ x, (loadVar t ⟨r, r0 + o, none⟩).run P w = .ok x w ∧ SV.rl ρ s x := by
  unfold loadL at h
  cases ag with
  | true =>
    simp only [cond_true] at h
    cases hb : Nat.ble (o + sz) cells.length with
    | false => simp [hb] at h
    | true =>
      simp only [hb, cond_true, Option.some.injEq] at h
      subst h
      have hle := Nat.le_of_ble_eq_true hb
      have hl := rls_len hr
      refine ⟨.agg ((xs.drop o).take sz).toArray, ?_, mkAgg_rl (rls_take _ (rls_drop _ hr))⟩
      have hlen : ((xs.drop o).take sz).length = sz := by simp; omega
      have := run_loadCells_list (P := P) w ⟨r, r0 + o, none⟩ ((xs.drop o).take sz) (by
        intro j v hv
        rw [add_eq, Nat.add_assoc]
        apply hw
        rw [List.getElem?_take] at hv
        split at hv
        · rw [List.getElem?_drop] at hv; exact hv
        · simp at hv)
      rw [hlen] at this
      simp [loadVar, run_isAgg ha, run_sizeOf hs, this]
  | false =>
    simp only [cond_false] at h
    obtain ⟨x, hx, hxr⟩ := rls_nth? hr h
    refine ⟨x, ?_, hxr⟩
    simp [loadVar, run_isAgg ha, hw o x hx]

theorem loadE_run {P : Program} {G : Glob} {base : Bs} {ρ : Rf} {bl : List (Option LB)} {w : World} {t : TypeId} {s v : SV} {x : Value} (M : MRel G base ρ bl w)
    (h : loadE P G bl t s = some v) (hs : SV.rl ρ s x) : ∃ a y, x = .pointer (some a) ∧ (loadVar t a).run P w = .ok y w ∧ SV.rl ρ v y := by
  unfold loadE at h
  split at h
  · simp at h
  · rename_i ag ha
    split at h
    · simp at h
    · rename_i sz hz
      split at h
      · rename_i i o
        split at h
        · rename_i b hb
          obtain ⟨xs, hx, hr, _⟩ := M.bk i b hb
          simp only [SV.rl] at hs
          obtain ⟨y, hy, hyr⟩ := loadL_run (P := P) (w := w) (r := ρ.blk i) (r0 := 0) hr (by intro j v hv; simp [World.cell?, hx, hv]) ha hz h
          rw [Nat.zero_add] at hy
          exact ⟨_, y, hs, hy, hyr⟩
        · simp at h
      · rename_i g o
        split at h
        · rename_i cs hg
          simp only [SV.rl] at hs
          obtain ⟨y, hy, hyr⟩ := loadL_run (P := P) (w := w) (r := g) (r0 := 0) (rls_vals (ρ := ρ) cs) (by intro j v hv; rw [Nat.zero_add]; exact (M.gl g cs (lookG_mem hg)).cell hv) ha hz h
          rw [Nat.zero_add] at hy
          exact ⟨_, y, hs, hy, hyr⟩
        · simp at h
      · rename_i c d o
        simp only [SV.rl] at hs
        obtain ⟨b, o', ws, e, h1, h2⟩ := hs
        obtain ⟨y, hy, hyr⟩ := loadL_run (P := P) (w := w) (r := b) (r0 := o') (cellsD_rls h2) (by intro j v hv; exact M.fz _ _ _ (h1 j v hv)) ha hz h
        exact ⟨_, y, e, hy, hyr⟩
      · simp at h

/-! building -/
def fillL (place : Nat → Option (Nat × Nat)) (cells : List SV) : List (Nat × SV) → Option (List SV)
  | [] => some cells
  | (i, v) :: rest => match place i with
    | none => none
    | some (off, size) => match cellsOf v with
      | none => none
      | some cs => bif Nat.beq cs.length size && Nat.ble (off + cs.length) cells.length then fillL place (splice cells off cs) rest else none

theorem foldl_splice : ∀ (cs : List Value) (off n : Nat) (xs : Array Value), off + n + cs.length ≤ xs.size →
    ((cs.zipIdx n).foldl (fun a (p : Value × Nat) => a.setIfInBounds (off + p.2) p.1) xs).toList = xs.toList.take (off + n) ++ (cs ++ xs.toList.drop (off + n + cs.length))
  | [], off, n, xs, _ => by simp
  | c :: cs, off, n, xs, h => by
    simp only [List.length_cons] at h
    rw [List.zipIdx_cons, List.foldl_cons, foldl_splice cs off (n + 1) _ (by simp; omega)]
    have hlt : off + n < xs.size := by omega
    rw [Array.toList_setIfInBounds]
    apply List.ext_getElem?
    intro k
    simp only [List.getElem?_append, List.length_take, List.length_set, List.getElem?_take, List.getElem?_set, List.getElem?_drop, List.length_cons, List.getElem?_cons, Array.length_toList]
    by_cases h1 : k < off + n
    · simp [show k < min (off + (n + 1)) xs.size by omega, show k < off + (n + 1) by omega, show off + n ≠ k by omega, show k < min (off + n) xs.size by omega, h1]
    · by_cases h2 : k = off + n
      · subst h2
        simp [show off + n < min (off + (n + 1)) xs.size by omega, show ¬ off + n < min (off + n) xs.size by omega, hlt, show off + n - min (off + n) xs.size = 0 by omega, show off + n < off + (n + 1) by omega]
      · simp only [show ¬ k < min (off + (n + 1)) xs.size by omega, show ¬ k < min (off + n) xs.size by omega, if_false]
        rw [show min (off + (n + 1)) xs.size = off + (n + 1) by omega, show min (off + n) xs.size = off + n by omega]
        by_cases h3 : k - (off + (n + 1)) < cs.length
        · simp [h3, show k - (off + n) < cs.length + 1 by omega, show k - (off + n) ≠ 0 by omega, show k - (off + n) - 1 = k - (off + (n + 1)) by omega]
        · simp only [h3, if_false, show ¬ k - (off + n) < cs.length + 1 by omega]
          rw [if_neg (by omega)]
          congr 1
          omega

inductive Parts (ρ : Rf) : List (Nat × SV) → List (Nat × Value) → Prop
  | nil : Parts ρ [] []
  | cons {i : Nat} {s : SV} {x : Value} {l : List (Nat × SV)} {m : List (Nat × Value)} (h : SV.rl ρ s x) (t : Parts ρ l m) : Parts ρ ((i, s) :: l) ((i, x) :: m)

theorem fill_run {ρ : Rf} {place : Nat → Option (Nat × Nat)} : ∀ {parts : List (Nat × SV)} {ps : List (Nat × Value)} {cells : List SV} {xs : List Value} {r : List SV},
    Parts ρ parts ps → SV.rls ρ cells xs → fillL place cells parts = some r →
    ∃ ys, Instr.fill place xs.toArray ps = some ys ∧ SV.rls ρ r ys.toList
  | [], _, cells, xs, r, .nil, hc, h => by
    simp only [fillL, Option.some.injEq] at h; subst h; exact ⟨xs.toArray, rfl, by simpa using hc⟩
  | (i, v) :: rest, _, cells, xs, r, .cons (x := x) hv ht, hc, h => by
    simp only [fillL] at h
    split at h
    · simp at h
    · rename_i off size hpl
      split at h
      · simp at h
      · rename_i cs hcs
        have hcr := cellsOf_rl hcs hv
        have hl := rls_len hcr
        have hl2 := rls_len hc
        cases hb : Nat.beq cs.length size && Nat.ble (off + cs.length) cells.length with
        | false => simp [hb] at h
        | true =>
          simp only [hb, cond_true] at h
          simp only [Bool.and_eq_true] at hb
          have h1 := Nat.eq_of_beq_eq_true hb.1
          have h2 := Nat.le_of_ble_eq_true hb.2
          have hsz : x.cells.size = size := by rw [← h1, hl]; simp
          have hz : (x.cells.zipIdx.foldl (fun cs (c, j) => cs.setIfInBounds (off + j) c) xs.toArray) = (xs.take off ++ (x.cells.toList ++ xs.drop (off + x.cells.toList.length))).toArray := by
            apply Array.ext'
            have := foldl_splice x.cells.toList off 0 xs.toArray (by simp; simp at hl; omega)
            simp only [Nat.add_zero] at this
            rw [← Array.foldl_toList, Array.toList_zipIdx]
            simpa using this
          obtain ⟨ys, hy, hyr⟩ := fill_run ht (rls_splice off hc hcr) h
          refine ⟨ys, ?_, hyr⟩
          simp only [Instr.fill, hpl]
          rw [if_neg (by simp; simp at hl; omega), hz]
          exact hy

def placesOf (P : Program) (fields : Array Field) : Option (List (Nat × Nat)) := go fields.toList
where go : List Field → Option (List (Nat × Nat))
  | [] => some []
  | f :: r => match szOf P f.type with
    | some s => match go r with
      | some l => some ((f.offset, s) :: l)
      | none => none
    | none => none
def lnth? {α : Type} : List α → Nat → Option α
  | [], _ => none
  | x :: _, 0 => some x
  | _ :: r, n + 1 => lnth? r n
theorem lnth?_eq {α : Type} : ∀ (l : List α) (n : Nat), lnth? l n = l[n]?
  | [], _ => by simp [lnth?]
  | x :: _, 0 => by simp [lnth?]
  | _ :: r, n + 1 => by simp [lnth?, lnth?_eq r n]
def zeroOf (P : Program) (t : TypeId) : Option (List Value) := match P.info? t with
  | some i => match i.zero with
    | some z => some z.cells.toList
    | none => none
  | none => none
def buildE (P : Program) (t : TypeId) (parts : List (Nat × SV)) : Option SV :=
  match zeroOf P t with
  | none => none
  | some z => match P.underlying t with
    | some (.struct fields) => match placesOf P fields with
      | some pl => match fillL (lnth? pl) (z.map .val) parts with
        | some l => some (mkAgg l)
        | none => none
      | none => none
    | some (.array _ e) => match szOf P e with
      | some s => match fillL (fun i => some (i * s, s)) (z.map .val) parts with
        | some l => some (mkAgg l)
        | none => none
      | none => none
    | _ => none

theorem run_zeroValue {P : Program} {t : TypeId} {z : List Value} (h : zeroOf P t = some z) (w : World) : ∃ v, (zeroValue t).run P w = .ok v w ∧ v.cells.toList = z := by
  unfold zeroOf at h
  cases hu : P.info? t with
  | none => simp [hu] at h
  | some i =>
    simp only [hu] at h
    cases hz : i.zero with
    | none => simp [hz] at h
    | some v => simp only [hz, Option.some.injEq] at h; exact ⟨v, by simp [zeroValue, typeInfo, hu, hz], h⟩

theorem mapM_places {P : Program} {w : World} : ∀ {fs : List Field} {l : List (Nat × Nat)}, placesOf.go P fs = some l →
    (fs.mapM (m := Sem) fun f => do pure (f.offset, ← sizeOf f.type)).run P w = .ok l w
  | [], l, h => by simp only [placesOf.go, Option.some.injEq] at h; subst h; simp
  | f :: r, l, h => by
    simp only [placesOf.go] at h
    split at h
    · rename_i s hs
      split at h
      · rename_i l' hl
        simp only [Option.some.injEq] at h
        subst h
        have ih := mapM_places (w := w) hl
        simp only [List.mapM_cons, Sem.run_bind, run_sizeOf hs, Result.andThen_ok, Sem.run_pure, ih]
      · simp at h
    · simp at h

theorem buildE_run {P : Program} {ρ : Rf} {t : TypeId} {parts : List (Nat × SV)} {ps : List (Nat × Value)} {v : SV} (h : buildE P t parts = some v)
    (hp : Parts ρ parts ps) (w : World) :
    ∃ x, (Instr.build t ps.toArray).run P w = .ok x w ∧ SV.rl ρ v x := by
  unfold buildE at h
  split at h
  · simp at h
  · rename_i z hz
    obtain ⟨zv, hzr, hzc⟩ := run_zeroValue hz w
    have hzr2 : SV.rls ρ (z.map .val) z := rls_vals z
    have hza : zv.cells = z.toArray := by apply Array.ext'; simpa using hzc
    split at h
    · rename_i fields hu
      split at h
      · rename_i pl hpl
        split at h
        · rename_i l hl
          simp only [Option.some.injEq] at h
          subst h
          obtain ⟨ys, hy, hyr⟩ := fill_run hp hzr2 hl
          refine ⟨.agg ys, ?_, by simpa using mkAgg_rl (ρ := ρ) hyr⟩
          have hm := mapM_places (w := w) (P := P) (fs := fields.toList) (l := pl) hpl
          have hm' : (fields.mapM (m := Sem) fun f => do pure (f.offset, ← sizeOf f.type)).run P w = .ok pl.toArray w := by
            rw [← Array.toArray_toList (xs := fields), List.mapM_toArray, Sem.run_map, hm]; rfl
          have hpl' : (fun i => pl.toArray[i]?) = lnth? pl := by funext i; rw [lnth?_eq]; simp
          simp only [Instr.build, Sem.run_bind, hzr, Result.andThen_ok, run_underlying hu, hm']
          rw [hpl', hza]
          simp only [hy, Sem.run_pure]
        · simp at h
      · simp at h
    · rename_i n e hu
      split at h
      · rename_i s hs
        split at h
        · rename_i l hl
          simp only [Option.some.injEq] at h
          subst h
          obtain ⟨ys, hy, hyr⟩ := fill_run hp hzr2 hl
          refine ⟨.agg ys, ?_, by simpa using mkAgg_rl (ρ := ρ) hyr⟩
          simp only [Instr.build, Sem.run_bind, hzr, Result.andThen_ok, run_underlying hu, run_sizeOf hs]
          rw [hza]
          simp only [hy, Sem.run_pure]
        · simp at h
      · simp at h
    · simp at h

end Go.Wk


set_option autoImplicit false
set_option linter.unusedVariables false
set_option linter.unusedSimpArgs false
set_option linter.unnecessarySimpa false
namespace Go.Wk
open Go Go.RowKit

/-- what a kernel does not look into -/
noncomputable def hide {α : Type} (x : α) : α := (Classical.choice (Nonempty.intro (⟨x, rfl⟩ : {y : α // y = x}))).1
theorem hide_eq {α : Type} (x : α) : hide x = x := (Classical.choice (Nonempty.intro (⟨x, rfl⟩ : {y : α // y = x}))).2
noncomputable def andI (k : IntKind) (a b : Int) : Int := hide (k.wrap (BitVec.ofInt k.bits a &&& BitVec.ofInt k.bits b).toNat)
noncomputable def orI (k : IntKind) (a b : Int) : Int := hide (k.wrap (BitVec.ofInt k.bits a ||| BitVec.ofInt k.bits b).toNat)
noncomputable def xorI (k : IntKind) (a b : Int) : Int := hide (k.wrap (BitVec.ofInt k.bits a ^^^ BitVec.ofInt k.bits b).toNat)
noncomputable def clrI (k : IntKind) (a b : Int) : Int := hide (k.wrap (BitVec.ofInt k.bits a &&& ~~~(BitVec.ofInt k.bits b)).toNat)
theorem andI_eq (k : IntKind) (a b : Int) : andI k a b = k.wrap (BitVec.ofInt k.bits a &&& BitVec.ofInt k.bits b).toNat := hide_eq _
theorem orI_eq (k : IntKind) (a b : Int) : orI k a b = k.wrap (BitVec.ofInt k.bits a ||| BitVec.ofInt k.bits b).toNat := hide_eq _
theorem xorI_eq (k : IntKind) (a b : Int) : xorI k a b = k.wrap (BitVec.ofInt k.bits a ^^^ BitVec.ofInt k.bits b).toNat := hide_eq _
theorem clrI_eq (k : IntKind) (a b : Int) : clrI k a b = k.wrap (BitVec.ofInt k.bits a &&& ~~~(BitVec.ofInt k.bits b)).toNat := hide_eq _
noncomputable def binInt (op : BinOp) (k : IntKind) (a b : Int) : Option (Bool × Value) :=
  match op with
  | .add => some (true, .int k (k.wrap (a + b)))
  | .sub => some (true, .int k (k.wrap (a - b)))
  | .mul => some (true, .int k (k.wrap (a * b)))
  | .quo => some (!(decide (b = 0)), .int k (k.wrap (a.tdiv b)))
  | .rem => some (!(decide (b = 0)), .int k (a.tmod b))
  | .and => some (true, .int k (andI k a b))
  | .or => some (true, .int k (orI k a b))
  | .xor => some (true, .int k (xorI k a b))
  | .andNot => some (true, .int k (clrI k a b))
  | .eql => some (true, .bool (a == b))
  | .neq => some (true, .bool (a != b))
  | .lss => some (true, .bool (decide (a < b)))
  | .leq => some (true, .bool (decide (a ≤ b)))
  | .gtr => some (true, .bool (decide (a > b)))
  | .geq => some (true, .bool (decide (a ≥ b)))
  | _ => none
def shiftE (op : BinOp) (k : IntKind) (a b : Int) : Option (Bool × Value) :=
  match op with
  | .shl => some (!(decide (b < 0)), .int k (k.wrap (a * 2 ^ (min b.toNat k.bits))))
  | .shr => some (!(decide (b < 0)), .int k (a.fdiv (2 ^ (min b.toNat k.bits))))
  | _ => none
def binStr (op : BinOp) (a b : ByteArray) : Option (Bool × Value) :=
  match op with
  | .eql => some (true, .bool (a.toList == b.toList))
  | .neq => some (true, .bool (!(a.toList == b.toList)))
  | .lss => some (true, .bool (Op.bytesLess a.toList b.toList))
  | .add => some (!(decide (((a.size + b.size : Nat) : Int) > 9223372036854775807)), .string (a ++ b))
  | _ => none

def partV (P : Program) (t : TypeId) (cs : Array Value) (off : Nat) : Option Value :=
  match agK P t with
  | some true => match szOf P t with
    | some sz => some (.agg (cs.extract off (off + sz)))
    | none => none
  | some false => cs[off]?
  | none => none
def eqFs (P : Program) (rec : TypeId → Value → Value → Option Bool) (xs ys : Array Value) : List Field → Option Bool
  | [] => some true
  | f :: r => bif f.name == "_" then eqFs P rec xs ys r else
    match partV P f.type xs f.offset with
    | none => none
    | some a => match partV P f.type ys f.offset with
      | none => none
      | some b => match rec f.type a b with
        | none => none
        | some e => match eqFs P rec xs ys r with
          | none => none
          | some e' => some (e && e')
def eqE (P : Program) : Nat → TypeId → Value → Value → Option Bool
  | 0, _, _, _ => none
  | d + 1, t, x, y =>
    match P.underlying t with
    | some .bool => match x with
      | .bool a => match y with
        | .bool b => some (a == b)
        | _ => none
      | _ => none
    | some (.int _) => match x with
      | .int k a => match y with
        | .int k' b => if k = k' then some (a == b) else none
        | _ => none
      | _ => none
    | some .string => match x with
      | .string a => match y with
        | .string b => some (a == b)
        | _ => none
      | _ => none
    | some (.struct fields) => match x with
      | .agg xs => match y with
        | .agg ys => bif P.stoodInHeld t then none else eqFs P (eqE P d) xs ys fields.toList
        | _ => none
      | _ => none
    | some (.interface _) => match x, y with
      | .nilIface, .nilIface => some true
      | .nilIface, .iface _ _ => some false
      | .iface _ _, .nilIface => some false
      | _, _ => none
    | some (.func _ _ _) => match x, y with
      | .nilFunc, .nilFunc => some true
      | .nilFunc, .func _ _ _ => some false
      | .func _ _ _, .nilFunc => some false
      | _, _ => none
    | some (.slice _) => match x, y with
      | .slice none _ _, .slice b _ _ => some b.isNone
      | .slice (some _) _ _, .slice none _ _ => some false
      | _, _ => none
    | some (.pointer _) => match x, y with
      | .pointer none, .pointer b => some b.isNone
      | .pointer (some _), .pointer none => some false
      | _, _ => none
    | _ => none

theorem partV_run {P : Program} {t : TypeId} {cs : Array Value} {off : Nat} {v : Value} (h : partV P t cs off = some v) (w : World) : (part t cs off).run P w = .ok v w := by
  unfold partV at h
  split at h
  · rename_i ha
    split at h
    · rename_i sz hs
      simp only [Option.some.injEq] at h; subst h
      simp [part, run_isAgg ha, run_sizeOf hs]
    · simp at h
  · rename_i ha
    simp [part, run_isAgg ha, h]
  · simp at h

theorem eqFs_run {P : Program} {rec : TypeId → Value → Value → Option Bool} {eqm : TypeId → Value → Value → Sem Bool} {w : World}
    (hrec : ∀ t x y b, rec t x y = some b → (eqm t x y).run P w = .ok b w) {xs ys : Array Value} : ∀ (fs : List Field) {b : Bool}, eqFs P rec xs ys fs = some b →
    (forIn (m := Sem) fs (none, PUnit.unit) fun f (_ : Option Bool × PUnit) => (do
        if f.name ≠ "_" then
          if !(← eqm f.type (← part f.type xs f.offset) (← part f.type ys f.offset)) then pure (ForInStep.done (some false, PUnit.unit))
          else pure (ForInStep.yield (none, PUnit.unit))
        else pure (ForInStep.yield (none, PUnit.unit)) : Sem (ForInStep (Option Bool × PUnit)))).run P w = .ok (if b then (none, PUnit.unit) else (some false, PUnit.unit)) w
  | [], b, h => by simp only [eqFs, Option.some.injEq] at h; subst h; simp
  | f :: r, b, h => by
    simp only [eqFs] at h
    by_cases hn : f.name = "_"
    · simp only [hn, beq_self_eq_true, cond_true] at h
      have ih := eqFs_run hrec r h
      simp only [List.forIn_cons, hn, ne_eq, not_true_eq_false, if_false, pure_bind]
      exact ih
    · have hb : (f.name == "_") = false := by simpa using hn
      simp only [hb, cond_false] at h
      split at h
      · simp at h
      · rename_i a ha
        split at h
        · simp at h
        · rename_i c hc
          split at h
          · simp at h
          · rename_i e he
            split at h
            · simp at h
            · rename_i e' he'
              simp only [Option.some.injEq] at h
              subst h
              have h1 := hrec _ _ _ _ he
              have ih := eqFs_run hrec r he'
              simp only [List.forIn_cons, ne_eq, hn, not_false_eq_true, if_true, Sem.run_bind, partV_run ha, partV_run hc, Result.andThen_ok, h1]
              cases e with
              | true => simp only [Bool.not_true, Bool.false_eq_true, if_false, Sem.run_pure, Result.andThen_ok, ih, Bool.true_and]
              | false => simp

theorem eqE_run {P : Program} {w : World} : ∀ (d : Nat) (t : TypeId) (x y : Value) (b : Bool), eqE P d t x y = some b → ∀ n, d ≤ n → (Op.equalIn n t x y).run P w = .ok b w := by
  intro d
  induction d with
  | zero => intro t x y b h; simp [eqE] at h
  | succ d ih =>
    intro t x y b h n hn
    obtain ⟨m, rfl⟩ : ∃ m, n = m + 1 := ⟨n - 1, by omega⟩
    have hm : d ≤ m := by omega
    simp only [eqE] at h
    split at h
    · rename_i hu
      split at h <;> try (simp at h; done)
      split at h <;> try (simp at h; done)
      simp only [Option.some.injEq] at h; subst h
      simp [Op.equalIn, run_underlying hu]
    · rename_i k hu
      split at h <;> try (simp at h; done)
      split at h <;> try (simp at h; done)
      split at h <;> try (simp at h; done)
      rename_i hk
      simp only [Option.some.injEq] at h; subst h
      simp [Op.equalIn, run_underlying hu, hk]
    · rename_i hu
      split at h <;> try (simp at h; done)
      split at h <;> try (simp at h; done)
      simp only [Option.some.injEq] at h; subst h
      simp [Op.equalIn, run_underlying hu]
    · rename_i fields hu
      split at h <;> try (simp at h; done)
      split at h <;> try (simp at h; done)
      rename_i _ _ xs _ ys
      cases hs : P.stoodInHeld t with
      | true => simp [hs] at h
      | false =>
        simp only [hs, cond_false] at h
        have key := eqFs_run (P := P) (w := w) (eqm := fun t x y => Op.equalIn m t x y) (fun t x y b h => ih t x y b h m hm) fields.toList h
        simp only [Op.equalIn, Sem.run_bind, run_underlying hu, Result.andThen_ok, run_program, hs, Bool.false_eq_true, if_false, pure_bind]
        rw [← Array.forIn_toList]
        refine (congrArg (fun r => Result.andThen r _) key).trans ?_
        cases b <;> rfl
    · rename_i hu
      split at h <;> simp only [Option.some.injEq, reduceCtorEq] at h <;> first | (subst h; simp [Op.equalIn, run_underlying hu]; done) | simp at h
    · rename_i hu
      split at h <;> simp only [Option.some.injEq, reduceCtorEq] at h <;> first | (subst h; simp [Op.equalIn, run_underlying hu]; done) | simp at h
    · rename_i hu
      split at h <;> simp only [Option.some.injEq, reduceCtorEq] at h <;> first | (subst h; simp [Op.equalIn, run_underlying hu]; done) | simp at h
    · rename_i hu
      split at h <;> simp only [Option.some.injEq, reduceCtorEq] at h <;> first | (subst h; simp [Op.equalIn, run_underlying hu]; done) | simp at h
    · simp at h

end Go.Wk


set_option autoImplicit false
set_option linter.unusedVariables false
set_option linter.unusedSimpArgs false
set_option linter.unnecessarySimpa false
namespace Go.Wk
open Go Go.RowKit

def isC : Operand → Bool
  | .const _ => true
  | _ => false
def guardOk (P : Program) (t : TypeId) (x y : Operand) (a b : Value) : Bool := match a with
  | .nilIface => match b with
    | .nilIface => isC x || isC y
    | _ => true
  | .agg _ => match b with
    | .agg _ => !(P.eqGuardType P.depth t)
    | _ => true
  | _ => true
noncomputable def binE (P : Program) (op : BinOp) (t : TypeId) (x y : Operand) (a b : Value) : Option (Bool × Value) :=
  match a, b with
  | .int k m, .int k' n => match op with
    | .shl => shiftE .shl k m n
    | .shr => shiftE .shr k m n
    | op => if k = k' then binInt op k m n else none
  | .string s, .string s' => binStr op s s'
  | .float _ _, .float _ _ => none
  | .complex _ _ _, .complex _ _ _ => none
  | a, b => bif guardOk P t x y a b then (match op with
    | .eql => match eqE P 12 t a b with
      | some e => some (true, .bool e)
      | none => none
    | .neq => match eqE P 12 t a b with
      | some e => some (true, .bool (!e))
      | none => none
    | _ => none) else none

theorem binInt_run {P : Program} {op : BinOp} {t : TypeId} {k : IntKind} {a b : Int} {v : Value} {w : World} (h1 : op ≠ .shl) (h2 : op ≠ .shr) (h : binInt op k a b = some (true, v)) :
    (binOp op t (.int k a) (.int k b)).run P w = .ok v w := by
  cases op <;> simp only [binInt, Option.some.injEq, Prod.mk.injEq, reduceCtorEq, Bool.not_eq_true', decide_eq_false_iff_not] at h <;>
    first
    | (obtain ⟨_, rfl⟩ := h; simp only [andI_eq, orI_eq, xorI_eq, clrI_eq]; simp [binOp, Op.intBits]; done)
    | (obtain ⟨_, rfl⟩ := h; simp_all [binOp, Op.intArith, Op.intDiv, Op.intBits, Op.intCmp]; done)
    | simp at h1
    | simp at h2
theorem shiftE_run {P : Program} {op : BinOp} {t : TypeId} {k k' : IntKind} {a b : Int} {v : Value} {w : World} (h : shiftE op k a b = some (true, v)) :
    (binOp op t (.int k a) (.int k' b)).run P w = .ok v w := by
  cases op <;> simp only [shiftE, Option.some.injEq, Prod.mk.injEq, reduceCtorEq, Bool.not_eq_true', decide_eq_false_iff_not] at h
  all_goals
    obtain ⟨hb, rfl⟩ := h
    simp [binOp, Op.shift, hb]
theorem binStr_run {P : Program} {op : BinOp} {t : TypeId} {a b : ByteArray} {v : Value} {w : World} (h : binStr op a b = some (true, v)) :
    (binOp op t (.string a) (.string b)).run P w = .ok v w := by
  cases op <;> simp only [binStr, Option.some.injEq, Prod.mk.injEq, reduceCtorEq, true_and, Bool.not_eq_true', decide_eq_false_iff_not] at h
  all_goals first
    | (subst h; simp [binOp, Op.stringOp]; done)
    | (obtain ⟨h, rfl⟩ := h; simp only [binOp, Op.stringOp, IntKind.max_i64]; rw [if_neg h]; rfl)

theorem guardOk_run {P : Program} {op : BinOp} {t : TypeId} {x y : Operand} {a b : Value} {w : World} (h : guardOk P t x y a b = true) : (eqGuard op t x y a b).run P w = .ok () w := by
  by_cases hop : op = .eql ∨ op = .neq
  · have h0 : (!(op matches .eql | .neq)) = false := by rcases hop with rfl | rfl <;> rfl
    unfold guardOk at h
    cases a
    case nilIface =>
      cases b
      case nilIface =>
        simp only [Bool.or_eq_true] at h
        rcases h with h | h
        · cases x <;> simp [isC] at h; rcases hop with rfl | rfl <;> rfl
        · cases y <;> simp [isC] at h; rcases hop with rfl | rfl <;> cases x <;> rfl
      all_goals (rcases hop with rfl | rfl <;> rfl)
    case agg l =>
      cases b
      case agg m =>
        simp only [Bool.not_eq_true'] at h
        rcases hop with rfl | rfl <;> simp [eqGuard, h]
      all_goals (rcases hop with rfl | rfl <;> rfl)
    all_goals (rcases hop with rfl | rfl <;> rfl)
  · cases op <;> first | (exfalso; simp at hop; done) | simp [eqGuard]

def sameNum : Value → Value → Bool
  | .int _ _, .int _ _ => true
  | .float _ _, .float _ _ => true
  | .complex _ _ _, .complex _ _ _ => true
  | .string _, .string _ => true
  | _, _ => false
theorem binOp_eq {t : TypeId} {a b : Value} (h : sameNum a b = false) : binOp .eql t a b = (do pure (.bool (← Op.equal t a b))) := by
  cases a <;> cases b <;> first | rfl | (simp [sameNum] at h; done)
theorem binOp_ne {t : TypeId} {a b : Value} (h : sameNum a b = false) : binOp .neq t a b = (do pure (.bool (!(← Op.equal t a b)))) := by
  cases a <;> cases b <;> first | rfl | (simp [sameNum] at h; done)

theorem binE_run {P : Program} {op : BinOp} {t : TypeId} {x y : Operand} {a b : Value} {v : Value} (h : binE P op t x y a b = some (true, v)) (w : World) :
    (do eqGuard op t x y a b; binOp op t a b : Sem Value).run P w = .ok v w := by
  unfold binE at h
  split at h
  · rename_i k m k' n
    simp only [eqGuard_at_int, Sem.run_bind, Sem.run_pure, Result.andThen_ok]
    split at h
    · exact shiftE_run h
    · exact shiftE_run h
    · rename_i h1 h2
      split at h
      · rename_i hk; subst hk; exact binInt_run h1 h2 h
      · simp at h
  · simp only [eqGuard_at_string, Sem.run_bind, Sem.run_pure, Result.andThen_ok]
    exact binStr_run h
  · simp at h
  · simp at h
  · rename_i n1 n2 n3 n4
    have hs : sameNum a b = false := by
      cases a <;> cases b <;> first | rfl | (exfalso; exact n1 _ _ _ _ rfl rfl) | (exfalso; exact n2 _ _ rfl rfl) | (exfalso; exact n3 _ _ _ _ rfl rfl) | (exfalso; exact n4 _ _ _ _ _ _ rfl rfl)
    cases hg : guardOk P t x y a b with
    | false => simp [hg] at h
    | true =>
      simp only [hg, cond_true] at h
      simp only [Sem.run_bind, guardOk_run hg, Result.andThen_ok]
      have key : ∀ e, eqE P 12 t a b = some e → (Op.equal t a b).run P w = .ok e w := fun e he => eqE_run 12 t a b e he _ (by unfold Op.maxDepth; omega)
      split at h
      · split at h
        · rename_i e he
          simp only [Option.some.injEq, Prod.mk.injEq, true_and] at h
          subst h
          rw [binOp_eq hs]
          simp [key e he]
        · simp at h
      · split at h
        · rename_i e he
          simp only [Option.some.injEq, Prod.mk.injEq, true_and] at h
          subst h
          rw [binOp_ne hs]
          simp [key e he]
        · simp at h
      · simp at h

noncomputable def unE (op : UnOp) (v : Value) : Option Value :=
  match op with
  | .neg => match v with
    | .int k n => some (.int k (k.wrap (0 - n)))
    | _ => none
  | .not => match v with
    | .bool b => some (.bool (!b))
    | _ => none
  | .xor => match v with
    | .int k n => some (.int k (xorI k (if k.signed then -1 else k.max) n))
    | _ => none
  | _ => none
theorem unE_run {P : Program} {op : UnOp} {v r : Value} (h : unE op v = some r) (w : World) : (Op.unary op v).run P w = .ok r w := by
  unfold unE at h
  split at h
  · split at h <;> simp only [Option.some.injEq, reduceCtorEq] at h; subst h; simp [Op.unary, Op.intArith]
  · split at h <;> simp only [Option.some.injEq, reduceCtorEq] at h; subst h; simp [Op.unary]
  · split at h <;> simp only [Option.some.injEq, reduceCtorEq] at h; subst h; simp [Op.unary, Op.intBits, xorI_eq]
  · simp at h

def convE (P : Program) (src dst : TypeId) (v : Value) : Option Value :=
  match P.underlying src with
  | none => none
  | some _ => match P.underlying dst with
    | some (.int k) => match v with
      | .int _ n => some (.int k (k.wrap n))
      | _ => none
    | some .string => match v with
      | .string s => some (.string s)
      | _ => none
    | _ => none
theorem convE_run {P : Program} {src dst : TypeId} {v r : Value} (h : convE P src dst v = some r) (w : World) : (convert src dst v).run P w = .ok r w := by
  unfold convE at h
  split at h
  · simp at h
  · rename_i d hd
    split at h
    · rename_i k hk
      split at h <;> simp only [Option.some.injEq, reduceCtorEq] at h
      subst h
      simp [convert, run_underlying hd, run_underlying hk, Conv.intToInt]
    · rename_i hk
      split at h <;> simp only [Option.some.injEq, reduceCtorEq] at h
      subst h
      cases d <;> simp [convert, run_underlying hd, run_underlying hk]
    · simp at h

/-! addresses -/
theorem bif_t1 {α : Type} {c : Bool} {x : Option α} {y : α} (h : (bif c then x else none) = some y) : c = true ∧ x = some y := by cases c <;> simp_all
def fieldAddrE (P : Program) (s : TypeId) (f : Nat) (x : SV) : Option SV :=
  match P.underlying s with
  | some (.struct fields) => match lnth? fields.toList f with
    | some fd => match szOf P fd.type with
      | some n => bif Nat.beq n 0 then none else match x with
        | .ptr i o => some (.ptr i (o + fd.offset))
        | .glob g o => some (.glob g (o + fd.offset))
        | .ep c y o => some (.ep c y (o + fd.offset))
        | _ => none
      | none => none
    | none => none
  | _ => none
theorem fieldAddrE_run {P : Program} {ρ : Rf} {s : TypeId} {f : Nat} {x v : SV} {y : Value} (h : fieldAddrE P s f x = some v) (hx : SV.rl ρ x y) (w : World) :
    ∃ z, (Instr.fieldAt s y f).run P w = .ok z w ∧ SV.rl ρ v z := by
  unfold fieldAddrE at h
  split at h <;> try (simp at h; done)
  rename_i fields hu
  split at h <;> try (simp at h; done)
  rename_i fd hf
  split at h <;> try (simp at h; done)
  rename_i n hn
  cases hb : Nat.beq n 0 with
  | true => simp [hb] at h
  | false =>
    simp only [hb, cond_false] at h
    have hn0 : n ≠ 0 := fun e => by subst e; simp at hb
    rw [lnth?_eq] at hf
    have hf' : fields[f]? = some fd := by simpa using hf
    split at h <;> try (simp at h; done)
    · simp only [Option.some.injEq] at h
      subst h
      simp only [SV.rl] at hx
      subst hx
      refine ⟨_, ?_, by simp only [SV.rl]; rfl⟩
      simp [Instr.fieldAt, run_underlying hu, hf', Instr.sureAddr, fieldPlace, run_sizeOf hn, hn0, add_eq]
    · simp only [Option.some.injEq] at h
      subst h
      simp only [SV.rl] at hx
      subst hx
      refine ⟨_, ?_, by simp only [SV.rl]; rfl⟩
      simp [Instr.fieldAt, run_underlying hu, hf', Instr.sureAddr, fieldPlace, run_sizeOf hn, hn0, add_eq]
    · rename_i c d o
      simp only [Option.some.injEq] at h
      subst h
      simp only [SV.rl] at hx
      obtain ⟨b, o', ws, rfl, h1, h2⟩ := hx
      refine ⟨.pointer (some ⟨b, o' + (o + fd.offset), none⟩), ?_, by simp only [SV.rl]; exact ⟨b, o', ws, rfl, h1, h2⟩⟩
      simp [Instr.fieldAt, run_underlying hu, hf', Instr.sureAddr, fieldPlace, run_sizeOf hn, hn0, add_eq, Nat.add_assoc]

def partS (P : Program) (t : TypeId) (l : List SV) (off : Nat) : Option SV :=
  match agK P t with
  | some true => match szOf P t with
    | some sz => some (mkAgg ((l.drop off).take sz))
    | none => none
  | some false => nth? l off
  | none => none
theorem partS_run {P : Program} {ρ : Rf} {t : TypeId} {l : List SV} {xs : List Value} {off : Nat} {v : SV} (h : partS P t l off = some v) (hl : SV.rls ρ l xs) (w : World) :
    ∃ y, (part t xs.toArray off).run P w = .ok y w ∧ SV.rl ρ v y := by
  unfold partS at h
  split at h
  · rename_i ha
    split at h
    · rename_i sz hs
      simp only [Option.some.injEq] at h; subst h
      refine ⟨.agg ((xs.drop off).take sz).toArray, ?_, mkAgg_rl (rls_take _ (rls_drop _ hl))⟩
      simp [part, run_isAgg ha, run_sizeOf hs]
    · simp at h
  · rename_i ha
    obtain ⟨y, hy, hyr⟩ := rls_nth? hl h
    exact ⟨y, by simp [part, run_isAgg ha, hy], hyr⟩
  · simp at h
/-- the cells of a struct or an array held as a value -/
def aggOf : SV → Option (List SV)
  | .val (.agg a) => some (a.toList.map .val)
  | .agg l => some l
  | _ => none
theorem aggOf_rl {ρ : Rf} {x : SV} {l : List SV} {y : Value} (h : aggOf x = some l) (hx : SV.rl ρ x y) : ∃ xs : List Value, y = .agg xs.toArray ∧ SV.rls ρ l xs := by
  unfold aggOf at h
  split at h
  · rename_i a
    simp only [Option.some.injEq] at h; subst h
    simp only [SV.rl] at hx
    exact ⟨a.toList, by simpa using hx, rls_vals _⟩
  · simp only [Option.some.injEq] at h; subst h
    simp only [SV.rl] at hx
    exact hx
  · simp at h
def fieldE (P : Program) (s : TypeId) (f : Nat) (x : SV) : Option SV :=
  match P.underlying s with
  | some (.struct fields) => match lnth? fields.toList f with
    | some fd => match aggOf x with
      | some l => partS P fd.type l fd.offset
      | none => none
    | none => none
  | _ => none
theorem fieldE_run {P : Program} {ρ : Rf} {s : TypeId} {f : Nat} {x v : SV} {y : Value} (h : fieldE P s f x = some v) (hx : SV.rl ρ x y) (w : World) :
    ∃ z, (Instr.field s y f).run P w = .ok z w ∧ SV.rl ρ v z := by
  unfold fieldE at h
  split at h <;> try (simp at h; done)
  rename_i fields hu
  split at h <;> try (simp at h; done)
  rename_i fd hf
  split at h <;> try (simp at h; done)
  rename_i l hl
  rw [lnth?_eq] at hf
  have hf' : fields[f]? = some fd := by simpa using hf
  obtain ⟨xs, rfl, hxs⟩ := aggOf_rl hl hx
  obtain ⟨z, hz, hzr⟩ := partS_run h hxs w
  exact ⟨z, by simp [Instr.field, run_underlying hu, hf', asAgg, hz], hzr⟩

def idxOf : SV → Option (IntKind × Int)
  | .val (.int k n) => some (k, n)
  | _ => none
theorem idxOf_rl {ρ : Rf} {s : SV} {x : Value} {k : IntKind} {n : Int} (h : idxOf s = some (k, n)) (hr : SV.rl ρ s x) : x = .int k n := by
  unfold idxOf at h
  split at h
  · simp only [Option.some.injEq, Prod.mk.injEq] at h; obtain ⟨rfl, rfl⟩ := h; simpa [SV.rl] using hr
  · simp at h
def indexAddrE (P : Program) (t : TypeId) (x i : SV) : Option (Bool × SV) :=
  match idxOf i with
  | none => none
  | some (_, n) => match P.underlying t with
    | some (.slice e) => match szOf P e with
      | some sz => match x with
        | .slc b o len => some (decide (0 ≤ n) && decide (n < (len : Int)), .ptr b (o + n.toNat * sz))
        | .dl c xs => bif Nat.beq c.size sz then some (decide (0 ≤ n) && decide (n < (xs.length : Int)), .ep c (xs.getD n.toNat c.dflt) 0) else none
        | .al _ c xs => bif Nat.beq c.size sz then some (decide (0 ≤ n) && decide (n < (xs.length : Int)), .ep c (xs.getD n.toNat c.dflt) 0) else none
        | _ => none
      | none => none
    | some (.array len e) => match szOf P e with
      | some sz => match x with
        | .ptr b o => some (decide (0 ≤ n) && decide (n < (len : Int)), .ptr b (o + n.toNat * sz))
        | .glob b o => some (decide (0 ≤ n) && decide (n < (len : Int)), .glob b (o + n.toNat * sz))
        | _ => none
      | none => none
    | _ => none
theorem rc_at {f : Fz} {c : Cd} {xs : List c.T} {y : Value} (h : rc f (.list c) xs [y]) : ∃ a cap, y = .slice a xs.length cap ∧ xs.length ≤ cap ∧ ∀ n : Nat, n < xs.length → ∃ b o ws, a = some ⟨b, o, none⟩ ∧ cellsAt f b (o + n * c.size) ws ∧ rc f c (xs.getD n c.dflt) ws := by
  simp only [rc] at h
  obtain ⟨a, cap, e, hc, h⟩ := h
  simp only [List.cons.injEq, and_true] at e
  refine ⟨a, cap, e, hc, fun n hn => ?_⟩
  obtain ⟨b, o, ws, e1, h1, h2⟩ := h n hn
  exact ⟨b, o, ws, e1, h1, by simpa [List.getD_eq_getElem?_getD, List.getElem?_eq_getElem hn] using h2⟩
theorem rc_index {P : Program} {t e : TypeId} {k : IntKind} {n : Int} {ρ : Rf} {c : Cd} {xs : List c.T} {y : Value} (hu : P.underlying t = some (.slice e)) (hs : szOf P e = some c.size) (h : rc ρ.fz (.list c) xs [y]) (h0 : 0 ≤ n) (h1 : n < (xs.length : Int)) (w : World) :
    ∃ z, (Instr.indexAt t y (.int k n)).run P w = .ok z w ∧ SV.rl ρ (.ep c (xs.getD n.toNat c.dflt) 0) z := by
  obtain ⟨a, cap, rfl, hc, hi⟩ := rc_at h
  obtain ⟨b, o, ws, rfl, hw, hr⟩ := hi n.toNat (by omega)
  refine ⟨.pointer (some ⟨b, o + n.toNat * c.size, none⟩), ?_, by simp only [SV.rl]; exact ⟨b, _, ws, rfl, hw, hr⟩⟩
  simp [Instr.indexAt, run_underlying hu, asIntOf, run_sizeOf hs, h0, h1, add_eq]
theorem indexAddrE_run {P : Program} {ρ : Rf} {t : TypeId} {x i v : SV} {y j : Value} (h : indexAddrE P t x i = some (true, v)) (hx : SV.rl ρ x y) (hi : SV.rl ρ i j) (w : World) :
    ∃ z, (Instr.indexAt t y j).run P w = .ok z w ∧ SV.rl ρ v z := by
  unfold indexAddrE at h
  split at h
  · simp at h
  · rename_i k n hk
    rw [idxOf_rl hk hi]
    split at h
    · rename_i e hu
      split at h <;> try (simp at h; done)
      rename_i sz hs
      split at h <;> try (simp at h; done)
      · rename_i b o len
        simp only [Option.some.injEq, Prod.mk.injEq, Bool.and_eq_true, decide_eq_true_eq] at h
        obtain ⟨⟨h0, h1⟩, rfl⟩ := h
        simp only [SV.rl] at hx
        obtain ⟨a, c, rfl, hc, ha⟩ := hx
        have ha' : a = ⟨ρ.blk b, o, none⟩ := ha.resolve_left (by omega)
        subst ha'
        refine ⟨.pointer (some ⟨ρ.blk b, o + n.toNat * sz, none⟩), ?_, by simp [SV.rl]⟩
        simp [Instr.indexAt, run_underlying hu, asIntOf, run_sizeOf hs, h0, h1, add_eq]
      · rename_i c xs
        obtain ⟨hb, h⟩ := bif_t1 h
        simp only [Option.some.injEq, Prod.mk.injEq, Bool.and_eq_true, decide_eq_true_eq] at h
        obtain ⟨⟨h0, h1⟩, rfl⟩ := h
        simp only [SV.rl] at hx
        have := Nat.eq_of_beq_eq_true hb
        subst this
        exact rc_index hu hs hx h0 h1 w
      · rename_i k' c xs
        obtain ⟨hb, h⟩ := bif_t1 h
        simp only [Option.some.injEq, Prod.mk.injEq, Bool.and_eq_true, decide_eq_true_eq] at h
        obtain ⟨⟨h0, h1⟩, rfl⟩ := h
        simp only [SV.rl] at hx
        have := Nat.eq_of_beq_eq_true hb
        subst this
        exact rc_index hu hs hx.2 h0 h1 w
    · rename_i len e hu
      split at h <;> try (simp at h; done)
      rename_i sz hs
      split at h <;> try (simp at h; done)
      all_goals
        simp only [Option.some.injEq, Prod.mk.injEq, Bool.and_eq_true, decide_eq_true_eq] at h
        obtain ⟨⟨h0, h1⟩, rfl⟩ := h
        simp only [SV.rl] at hx
        subst hx
        refine ⟨_, ?_, by simp only [SV.rl]; rfl⟩
        simp [Instr.indexAt, run_underlying hu, asIntOf, run_sizeOf hs, h0, h1, add_eq, Instr.sureAddr]
    · simp at h

def byteAt (s : ByteArray) (n : Int) : Int := ((s.data.getD n.toNat 0).toNat : Int)
def indexE (P : Program) (t : TypeId) (x i : SV) : Option (Bool × SV) :=
  match idxOf i with
  | none => none
  | some (_, n) => match P.underlying t with
    | some (.array len e) => match szOf P e with
      | some sz => match aggOf x with
        | some l => bif decide (0 ≤ n) && decide (n < (len : Int)) then (match partS P e l (n.toNat * sz) with
          | some v => some (true, v)
          | none => none) else none
        | none => none
      | none => none
    | some .string => match x with
      | .val (.string s) => some (decide (0 ≤ n) && decide (n < (s.size : Int)), .val (.int .u8 (byteAt s n)))
      | _ => none
    | _ => none
theorem indexE_run {P : Program} {ρ : Rf} {t : TypeId} {x i v : SV} {y j : Value} (h : indexE P t x i = some (true, v)) (hx : SV.rl ρ x y) (hi : SV.rl ρ i j) (w : World) :
    ∃ z, (Instr.index t y j).run P w = .ok z w ∧ SV.rl ρ v z := by
  unfold indexE at h
  split at h
  · simp at h
  · rename_i k n hk
    rw [idxOf_rl hk hi]
    split at h
    · rename_i len e hu
      split at h <;> try (simp at h; done)
      rename_i sz hs
      split at h <;> try (simp at h; done)
      rename_i l hl
      cases hb : (decide (0 ≤ n) && decide (n < (len : Int))) with
      | false => simp [hb] at h
      | true =>
        simp only [hb, cond_true] at h
        simp only [Bool.and_eq_true, decide_eq_true_eq] at hb
        split at h <;> try (simp at h; done)
        rename_i v' hv
        simp only [Option.some.injEq, Prod.mk.injEq, true_and] at h
        subst h
        obtain ⟨xs, rfl, hxs⟩ := aggOf_rl hl hx
        obtain ⟨z, hz, hzr⟩ := partS_run hv hxs w
        exact ⟨z, by simp [Instr.index, run_underlying hu, asIntOf, run_sizeOf hs, hb.1, hb.2, hz], hzr⟩
    · rename_i hu
      split at h <;> try (simp at h; done)
      rename_i s
      simp only [Option.some.injEq, Prod.mk.injEq, Bool.and_eq_true, decide_eq_true_eq] at h
      obtain ⟨⟨h0, h1⟩, rfl⟩ := h
      simp only [SV.rl] at hx
      subst hx
      have hlt : n.toNat < s.size := by omega
      refine ⟨.int .u8 (byteAt s n), ?_, by simp [SV.rl]⟩
      have hg : s[n.toNat]? = some s[n.toNat] := by simp [hlt]
      have hb : byteAt s n = (s[n.toNat].toNat : Int) := by
        unfold byteAt
        have : n.toNat < s.data.size := hlt
        simp only [Array.getD, this, dif_pos]; rfl
      simp [Instr.index, run_underlying hu, asIntOf, h0, hg, hb]
    · simp at h

def bnd : Option SV → Int → Option Int
  | none, d => some d
  | some s, _ => match idxOf s with
    | some (_, n) => some n
    | none => none
/-- a part of a list -/
def cutL {α : Type} (xs : List α) (lo hi : Option SV) (l h : Int) : List α := match lo with
  | none => match hi with
    | none => xs
    | some _ => xs.take h.toNat
  | some _ => match hi with
    | none => xs.drop l.toNat
    | some _ => (xs.take h.toNat).drop l.toNat
def sliceD (c : Cd) (xs : List c.T) (sz : Nat) (lo hi : Option SV) : Option (Bool × SV) := bif Nat.beq c.size sz then (match bnd lo 0 with
  | none => none
  | some l => match bnd hi xs.length with
    | none => none
    | some h => some (decide (0 ≤ l) && (decide (l ≤ h) && decide (h ≤ (xs.length : Int))), .dl c (cutL xs lo hi l h))) else none
def sliceE (P : Program) (t : TypeId) (x : SV) (lo hi : Option SV) : Option (Bool × SV) :=
  match P.underlying t with
  | some .string => match x with
    | .val (.string s) => match bnd lo 0 with
      | none => none
      | some l => match bnd hi s.size with
        | none => none
        | some h => some (decide (0 ≤ l) && (decide (l ≤ h) && decide (h ≤ (s.size : Int))), .val (.string (s.extract l.toNat h.toNat)))
    | _ => none
  | some (.slice e) => match szOf P e with
    | none => none
    | some sz => match x with
      | .slc b o n => match bnd lo 0 with
        | none => none
        | some l => match bnd hi n with
          | none => none
          | some h => some (decide (0 ≤ l) && (decide (l ≤ h) && decide (h ≤ (n : Int))), .slc b (o + l.toNat * sz) (h.toNat - l.toNat))
      | .dl c xs => sliceD c xs sz lo hi
      | .al _ c xs => sliceD c xs sz lo hi
      | _ => none
  | some (.array n e) => match szOf P e with
    | none => none
    | some sz => match x with
      | .ptr b o => match bnd lo 0 with
        | none => none
        | some l => match bnd hi n with
          | none => none
          | some h => some (decide (0 ≤ l) && (decide (l ≤ h) && decide (h ≤ (n : Int))), .slc b (o + l.toNat * sz) (h.toNat - l.toNat))
      | _ => none
  | _ => none

theorem bnd_cases {ρ : Rf} {o : Option SV} {v : Option Value} {d n : Int} (h : bnd o d = some n) (r : ∀ s, o = some s → ∃ x, v = some x ∧ SV.rl ρ s x) (nn : o = none → v = none) :
    (v = none ∧ n = d) ∨ ∃ k, v = some (.int k n) := by
  cases o with
  | none => simp only [bnd, Option.some.injEq] at h; exact .inl ⟨nn rfl, h.symm⟩
  | some s =>
    obtain ⟨x, rfl, hx⟩ := r s rfl
    simp only [bnd] at h
    split at h <;> try (simp at h; done)
    rename_i k m hk
    simp only [Option.some.injEq] at h
    subst h
    exact .inr ⟨k, by rw [idxOf_rl hk hx]⟩
theorem bnds_run {P : Program} {ρ : Rf} {isS : Bool} {len cap : Nat} {lo hi : Option SV} {lv hv : Option Value} {l h : Int} {w : World}
    (hl : bnd lo 0 = some l) (hh : bnd hi len = some h) (rl : ∀ s, lo = some s → ∃ x, lv = some x ∧ SV.rl ρ s x) (rh : ∀ s, hi = some s → ∃ x, hv = some x ∧ SV.rl ρ s x)
    (nl : lo = none → lv = none) (nh : hi = none → hv = none) (h0 : 0 ≤ l) (h1 : l ≤ h) (h2 : h ≤ (len : Int)) (hc : len ≤ cap) :
    (Instr.sliceBounds isS len cap lv hv none).run P w = .ok (l.toNat, h.toNat, cap) w := by
  have a1 : 0 ≤ h := by omega
  have a2 : h ≤ (cap : Int) := by omega
  have a3 : l ≤ ((h.toNat : Nat) : Int) := by omega
  rcases bnd_cases hl rl nl with ⟨rfl, rfl⟩ | ⟨k, rfl⟩ <;> rcases bnd_cases hh rh nh with ⟨rfl, rfl⟩ | ⟨k', rfl⟩
  · simp [Instr.sliceBounds]
  · simp [Instr.sliceBounds, Instr.sliceBound, asIntOf, a1, a2]
  · simp only [Int.toNat_natCast] at a3
    simp [Instr.sliceBounds, Instr.sliceBound, asIntOf, h0, a3]
  · have a4 : l ≤ max h 0 := by omega
    simp [Instr.sliceBounds, Instr.sliceBound, asIntOf, a1, a2, h0, a4]

theorem cutL_eq {α : Type} {xs : List α} {lo hi : Option SV} {l h : Int} (hl : bnd lo 0 = some l) (hh : bnd hi xs.length = some h) : cutL xs lo hi l h = (xs.take h.toNat).drop l.toNat := by
  unfold cutL
  cases lo with
  | none =>
    simp only [bnd, Option.some.injEq] at hl; subst hl
    cases hi with
    | none => simp only [bnd, Option.some.injEq] at hh; subst hh; simp
    | some s => simp
  | some s =>
    cases hi with
    | none => simp only [bnd, Option.some.injEq] at hh; subst hh; simp
    | some s => rfl
theorem sliceD_run {P : Program} {ρ : Rf} {t e : TypeId} {c : Cd} {xs : List c.T} {sz : Nat} {v : SV} {lo hi : Option SV} {y : Value} {lv hv : Option Value} (hu : P.underlying t = some (.slice e)) (hs : szOf P e = some sz) (h : sliceD c xs sz lo hi = some (true, v)) (hx : rc ρ.fz (.list c) xs [y])
    (rl : ∀ s, lo = some s → ∃ x, lv = some x ∧ SV.rl ρ s x) (rh : ∀ s, hi = some s → ∃ x, hv = some x ∧ SV.rl ρ s x)
    (nl : lo = none → lv = none) (nh : hi = none → hv = none) (w : World) : ∃ z, (Instr.sliceAt t y lv hv none).run P w = .ok z w ∧ SV.rl ρ v z := by
  unfold sliceD at h
  have hb := (bif_t1 h).1
  replace h := (bif_t1 h).2
  have hsz := Nat.eq_of_beq_eq_true hb
  subst hsz
  split at h
  · simp at h
  rename_i l hl
  split at h
  · simp at h
  rename_i u hh
  simp only [Option.some.injEq, Prod.mk.injEq, Bool.and_eq_true, decide_eq_true_eq] at h
  obtain ⟨⟨h0, h1, h2⟩, rfl⟩ := h
  rw [cutL_eq hl hh]
  simp only [rc] at hx
  obtain ⟨a, cap, e', hc, hx⟩ := hx
  simp only [List.cons.injEq, and_true] at e'
  subst e'
  have hbd := bnds_run (P := P) (isS := true) (cap := cap) (w := w) hl hh rl rh nl nh h0 h1 h2 hc
  refine ⟨.slice (if cap = l.toNat then a else Option.map (fun x => x.add (l.toNat * c.size)) a) (u.toNat - l.toNat) (cap - l.toNat), by simp only [Instr.sliceAt, Instr.slice, Sem.run_bind, run_underlying hu, Result.andThen_ok, hbd, run_sizeOf hs, Sem.run_pure], ?_⟩
  have hlen : ((xs.take u.toNat).drop l.toNat).length = u.toNat - l.toNat := by simp; omega
  simp only [SV.rl, rc]
  refine ⟨_, _, by rw [hlen], by rw [hlen]; omega, fun i hi => ?_⟩
  rw [hlen] at hi
  obtain ⟨b, o, ws, ea, h3, h4⟩ := hx (l.toNat + i) (by omega)
  subst ea
  have hne : ¬ cap = l.toNat := by omega
  refine ⟨b, o + l.toNat * c.size, ws, by rw [if_neg hne]; simp [add_eq], ?_, ?_⟩
  · rw [Nat.add_assoc, ← Nat.add_mul]; exact h3
  · simpa using h4
theorem sliceE_run {P : Program} {ρ : Rf} {t : TypeId} {x v : SV} {lo hi : Option SV} {y : Value} {lv hv : Option Value} (h : sliceE P t x lo hi = some (true, v)) (hx : SV.rl ρ x y)
    (rl : ∀ s, lo = some s → ∃ x, lv = some x ∧ SV.rl ρ s x) (rh : ∀ s, hi = some s → ∃ x, hv = some x ∧ SV.rl ρ s x)
    (nl : lo = none → lv = none) (nh : hi = none → hv = none) (w : World) : ∃ z, (Instr.sliceAt t y lv hv none).run P w = .ok z w ∧ SV.rl ρ v z := by
  unfold sliceE at h
  split at h
  · rename_i hu
    split at h <;> try (simp at h; done)
    rename_i s
    split at h
    · simp at h
    rename_i l hl
    split at h
    · simp at h
    rename_i u hh
    simp only [Option.some.injEq, Prod.mk.injEq, Bool.and_eq_true, decide_eq_true_eq] at h
    obtain ⟨⟨h0, h1, h2⟩, rfl⟩ := h
    simp only [SV.rl] at hx; subst hx
    have hb := bnds_run (P := P) (isS := false) (w := w) hl hh rl rh nl nh h0 h1 h2 (Nat.le_refl _)
    exact ⟨.string (s.extract l.toNat u.toNat), by simp [Instr.sliceAt, Instr.slice, run_underlying hu, hb], by simp [SV.rl]⟩
  · rename_i e hu
    split at h
    · simp at h
    rename_i sz hs
    split at h <;> try (simp at h; done)
    rotate_left
    · rename_i c xs
      simp only [SV.rl] at hx
      exact sliceD_run hu hs h hx rl rh nl nh w
    · rename_i k c xs
      simp only [SV.rl] at hx
      exact sliceD_run hu hs h hx.2 rl rh nl nh w
    rename_i b o n
    split at h
    · simp at h
    rename_i l hl
    split at h
    · simp at h
    rename_i u hh
    simp only [Option.some.injEq, Prod.mk.injEq, Bool.and_eq_true, decide_eq_true_eq] at h
    obtain ⟨⟨h0, h1, h2⟩, rfl⟩ := h
    simp only [SV.rl] at hx
    obtain ⟨a, c, rfl, hc, ha⟩ := hx
    have hb := bnds_run (P := P) (isS := true) (cap := c) (w := w) hl hh rl rh nl nh h0 h1 h2 hc
    refine ⟨.slice (if c = l.toNat then some a else Option.map (fun x => x.add (l.toNat * sz)) (some a)) (u.toNat - l.toNat) (c - l.toNat), by simp only [Instr.sliceAt, Instr.slice, Sem.run_bind, run_underlying hu, Result.andThen_ok, hb, run_sizeOf hs, Sem.run_pure], ?_⟩
    simp only [SV.rl]
    by_cases hcl : c = l.toNat
    · refine ⟨a, c - l.toNat, by simp [hcl], by omega, .inl (by omega)⟩
    · refine ⟨a.add (l.toNat * sz), c - l.toNat, by simp [hcl], by omega, ?_⟩
      rcases ha with ha | ha
      · exact .inl (by omega)
      · exact .inr (by rw [ha, add_eq])
  · rename_i n e hu
    split at h
    · simp at h
    rename_i sz hs
    split at h <;> try (simp at h; done)
    rename_i b o
    split at h
    · simp at h
    rename_i l hl
    split at h
    · simp at h
    rename_i u hh
    simp only [Option.some.injEq, Prod.mk.injEq, Bool.and_eq_true, decide_eq_true_eq] at h
    obtain ⟨⟨h0, h1, h2⟩, rfl⟩ := h
    simp only [SV.rl] at hx
    subst hx
    have hb := bnds_run (P := P) (isS := false) (cap := n) (w := w) hl hh rl rh nl nh h0 h1 h2 (Nat.le_refl _)
    refine ⟨.slice (some (if n = l.toNat then ⟨ρ.blk b, o, none⟩ else (⟨ρ.blk b, o, none⟩ : Addr).add (l.toNat * sz))) (u.toNat - l.toNat) (n - l.toNat), by simp only [Instr.sliceAt, Sem.run_bind, run_underlying hu, Result.andThen_ok, Instr.sureAddr, hb, run_sizeOf hs, Sem.run_pure], ?_⟩
    simp only [SV.rl]
    by_cases hcl : n = l.toNat
    · exact ⟨⟨ρ.blk b, o, none⟩, n - l.toNat, by simp [hcl], by omega, .inl (by omega)⟩
    · exact ⟨(⟨ρ.blk b, o, none⟩ : Addr).add (l.toNat * sz), n - l.toNat, by simp only [hcl, if_false], by omega, .inr (by rw [add_eq])⟩
  · simp at h

def extractE (x : SV) (i : Nat) : Option SV := match x with
  | .val (.tuple vs) => match lnth? vs.toList i with
    | some v => some (.val v)
    | none => none
  | .tup l => nth? l i
  | _ => none
theorem extractE_run {P : Program} {ρ : Rf} {x v : SV} {i : Nat} {y : Value} (h : extractE x i = some v) (hx : SV.rl ρ x y) (w : World) :
    ∃ z, (Instr.extract y i).run P w = .ok z w ∧ SV.rl ρ v z := by
  unfold extractE at h
  split at h
  · rename_i vs
    split at h <;> try (simp at h; done)
    rename_i u hv
    simp only [Option.some.injEq] at h; subst h
    simp only [SV.rl] at hx; subst hx
    rw [lnth?_eq] at hv
    have hv' : vs[i]? = some u := by simpa using hv
    exact ⟨u, by simp [Instr.extract, hv'], by simp [SV.rl]⟩
  · simp only [SV.rl] at hx
    obtain ⟨xs, rfl, hl⟩ := hx
    obtain ⟨z, hz, hzr⟩ := rls_nth? hl h
    exact ⟨z, by simp [Instr.extract, hz], hzr⟩
  · simp at h

end Go.Wk

