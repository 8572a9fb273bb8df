/- Abstract stores as lists of Nums: normal form, order, join, meet, widening, members; Abstract stores: bounds of two, members, rows of widenings; Abstract stores: what the three statements ask. Conditions: none. -/
import Derived.Test.YtmadebejnhinoaaDoorVB

set_option linter.unusedVariables false
set_option linter.unusedSimpArgs false
namespace Go.Proofs.YtmadebejnhinoaaDoor.V
open Go Go.Wk Go.RowKit

/-- two lists, place by place -/
def All2 {α : Type} (R : α → α → Prop) : List α → List α → Prop
  | [], [] => True
  | x :: xs, y :: ys => R x y ∧ All2 R xs ys
  | _, _ => False
section
variable {α : Type} {R S T : α → α → Prop}
theorem All2.len : ∀ {xs ys : List α}, All2 R xs ys → xs.length = ys.length
  | [], [], _ => rfl
  | x :: xs, y :: ys, h => by simp [All2.len h.2]
theorem All2.refl_ (h : ∀ x, R x x) : ∀ xs : List α, All2 R xs xs
  | [] => trivial
  | x :: xs => ⟨h x, All2.refl_ h xs⟩
theorem All2.trans_ (h : ∀ x y z, R x y → S y z → T x z) : ∀ {xs ys zs : List α}, All2 R xs ys → All2 S ys zs → All2 T xs zs
  | [], [], [], _, _ => trivial
  | x :: xs, y :: ys, z :: zs, a, b => ⟨h x y z a.1 b.1, All2.trans_ h a.2 b.2⟩
theorem All2.imp {P Q : α → Prop} (h : ∀ x y, P x → Q y → R x y → S x y) : ∀ {xs ys : List α}, (∀ x ∈ xs, P x) → (∀ y ∈ ys, Q y) → All2 R xs ys → All2 S xs ys
  | [], [], _, _, _ => trivial
  | x :: xs, y :: ys, hp, hq, a => ⟨h x y (hp x (by simp)) (hq y (by simp)) a.1, All2.imp h (fun z hz => hp z (by simp [hz])) (fun z hz => hq z (by simp [hz])) a.2⟩
theorem All2.zipL {op : α → α → α} {P Q : α → Prop} (h : ∀ x y, P x → Q y → R x (op x y)) : ∀ {xs ys : List α}, xs.length = ys.length → (∀ x ∈ xs, P x) → (∀ y ∈ ys, Q y) → All2 R xs (List.zipWith op xs ys)
  | [], [], _, _, _ => trivial
  | x :: xs, y :: ys, hl, hp, hq => ⟨h x y (hp x (by simp)) (hq y (by simp)), All2.zipL h (by simpa using hl) (fun z hz => hp z (by simp [hz])) (fun z hz => hq z (by simp [hz]))⟩
  | [], _ :: _, hl, _, _ => by simp at hl
  | _ :: _, [], hl, _, _ => by simp at hl
theorem All2.zipR {op : α → α → α} {P Q : α → Prop} (h : ∀ x y, P x → Q y → R y (op x y)) : ∀ {xs ys : List α}, xs.length = ys.length → (∀ x ∈ xs, P x) → (∀ y ∈ ys, Q y) → All2 R ys (List.zipWith op xs ys)
  | [], [], _, _, _ => trivial
  | x :: xs, y :: ys, hl, hp, hq => ⟨h x y (hp x (by simp)) (hq y (by simp)), All2.zipR h (by simpa using hl) (fun z hz => hp z (by simp [hz])) (fun z hz => hq z (by simp [hz]))⟩
  | [], _ :: _, hl, _, _ => by simp at hl
  | _ :: _, [], hl, _, _ => by simp at hl
theorem All2.eq_ {P Q : α → Prop} (h : ∀ x y, P x → Q y → R x y → S y x → x = y) : ∀ {xs ys : List α}, (∀ x ∈ xs, P x) → (∀ y ∈ ys, Q y) → All2 R xs ys → All2 S ys xs → xs = ys
  | [], [], _, _, _, _ => rfl
  | x :: xs, y :: ys, hp, hq, a, b => by rw [h x y (hp x (by simp)) (hq y (by simp)) a.1 b.1, All2.eq_ h (fun z hz => hp z (by simp [hz])) (fun z hz => hq z (by simp [hz])) a.2 b.2]
end
theorem zip_comm {α : Type} {op : α → α → α} {P Q : α → Prop} (h : ∀ x y, P x → Q y → op x y = op y x) : ∀ {xs ys : List α}, (∀ x ∈ xs, P x) → (∀ y ∈ ys, Q y) → List.zipWith op xs ys = List.zipWith op ys xs
  | [], [], _, _ => rfl
  | [], _ :: _, _, _ => rfl
  | _ :: _, [], _, _ => rfl
  | x :: xs, y :: ys, hp, hq => by
    have e1 := h x y (hp x (by simp)) (hq y (by simp))
    have e2 := zip_comm h (xs := xs) (ys := ys) (fun z hz => hp z (by simp [hz])) (fun z hz => hq z (by simp [hz]))
    rw [List.zipWith_cons_cons, List.zipWith_cons_cons, e1, e2]
theorem zip_all {α : Type} {op : α → α → α} {P Q N : α → Prop} (h : ∀ x y, P x → Q y → N (op x y)) : ∀ {xs ys : List α}, (∀ x ∈ xs, P x) → (∀ y ∈ ys, Q y) → ∀ z ∈ List.zipWith op xs ys, N z
  | [], [], _, _ => by simp
  | [], _ :: _, _, _ => by simp
  | _ :: _, [], _, _ => by simp
  | x :: xs, y :: ys, hp, hq => by
    intro z hz
    simp only [List.zipWith_cons_cons, List.mem_cons] at hz
    rcases hz with rfl | hz
    · exact h x y (hp x (by simp)) (hq y (by simp))
    · exact zip_all h (fun z hz => hp z (by simp [hz])) (fun z hz => hq z (by simp [hz])) z hz
/-- an abstract store -/
structure EnvP where
  dead : Bool
  vs : List Nm
  ars : List Nm
deriving DecidableEq
def deadE : EnvP := ⟨true, [], []⟩
def anyBot (l : List Nm) : Bool := l.any (·.1)
def livelyE (e : EnvP) : EnvP := if e.dead || anyBot e.vs || anyBot e.ars then deadE else e
def normE (e : EnvP) : EnvP := if e.dead then deadE else livelyE ⟨false, e.vs.map normS, e.ars.map normS⟩
def unlikeE (e f : EnvP) : Bool := !decide (e.vs.length = f.vs.length) || !decide (e.ars.length = f.ars.length)
def bothE (op : Nm → Nm → Nm) (e f : EnvP) : EnvP := livelyE ⟨false, List.zipWith op e.vs f.vs, List.zipWith op e.ars f.ars⟩
def widerN (op : Nm → Nm → Nm) (e f : EnvP) : EnvP := if e.dead then f else if f.dead then e else if unlikeE e f then deadE else bothE op e f
def widerE (op : Nm → Nm → Nm) (e f : EnvP) : EnvP := widerN op (normE e) (normE f)
def widS (zs : List Int) (a b : Nm) : Nm := widN (normS a) (normS b) zs
def joinE : EnvP → EnvP → EnvP := widerE joinS
def widE (zs : List Int) : EnvP → EnvP → EnvP := widerE (widS zs)
noncomputable def meetM (e f : EnvP) : EnvP := if e.dead || f.dead || unlikeE e f then deadE else bothE meetS e f
noncomputable def meetE (e f : EnvP) : EnvP := meetM (normE e) (normE f)
def all2b (p : Nm → Nm → Bool) : List Nm → List Nm → Bool
  | x :: xs, y :: ys => p x y && all2b p xs ys
  | _, _ => true
def leqM (e f : EnvP) : Bool := e.dead || (!(f.dead || unlikeE e f) && (all2b leqS e.vs f.vs && all2b leqS e.ars f.ars))
def leqE (e f : EnvP) : Bool := leqM (normE e) (normE f)
def sameE (e f : EnvP) : Bool := decide (normE e = normE f)
structure RawE (e : EnvP) : Prop where
  v : ∀ x ∈ e.vs, Raw x
  a : ∀ x ∈ e.ars, Raw x
/-- a number's normal form that has some -/
def Live (x : Nm) : Prop := NF x ∧ x.1 = false
def NE (e : EnvP) : Prop := e = deadE ∨ (e.dead = false ∧ (∀ x ∈ e.vs, Live x) ∧ ∀ x ∈ e.ars, Live x)
theorem ne_dead : NE deadE := .inl rfl
theorem NE.raw {e : EnvP} (h : NE e) : RawE e := by
  rcases h with rfl | ⟨_, h1, h2⟩
  · exact ⟨fun x hx => by simp [deadE] at hx, fun x hx => by simp [deadE] at hx⟩
  · exact ⟨fun x hx => (h1 x hx).1.raw, fun x hx => (h2 x hx).1.raw⟩
theorem NE.dead_ {e : EnvP} (h : NE e) (hd : e.dead = true) : e = deadE := by
  rcases h with h | ⟨h, _⟩
  · exact h
  · rw [hd] at h; simp at h
theorem NE.live {e : EnvP} (h : NE e) (hd : e.dead = false) : (∀ x ∈ e.vs, Live x) ∧ ∀ x ∈ e.ars, Live x := by
  rcases h with h | ⟨_, h⟩
  · rw [h] at hd; simp [deadE] at hd
  · exact h
theorem anyBot_no {l : List Nm} (h : anyBot l = false) : ∀ x ∈ l, x.1 = false := by
  unfold anyBot at h
  intro x hx
  have := List.any_eq_false.1 h x hx
  simpa using this
theorem livelyE_ne {vs ars : List Nm} (hv : ∀ x ∈ vs, NF x) (ha : ∀ x ∈ ars, NF x) : NE (livelyE ⟨false, vs, ars⟩) := by
  unfold livelyE
  simp only [Bool.false_or]
  by_cases h : (anyBot vs || anyBot ars) = true
  · rw [if_pos h]; exact ne_dead
  · rw [if_neg h]
    simp only [Bool.not_eq_true, Bool.or_eq_false_iff] at h
    exact .inr ⟨rfl, fun x hx => ⟨hv x hx, anyBot_no h.1 x hx⟩, fun x hx => ⟨ha x hx, anyBot_no h.2 x hx⟩⟩
theorem livelyE_live {vs ars : List Nm} (hv : ∀ x ∈ vs, x.1 = false) (ha : ∀ x ∈ ars, x.1 = false) : livelyE ⟨false, vs, ars⟩ = ⟨false, vs, ars⟩ := by
  have k : ∀ l : List Nm, (∀ x ∈ l, x.1 = false) → anyBot l = false := by
    intro l h; unfold anyBot; rw [List.any_eq_false]; intro x hx; simp [h x hx]
  unfold livelyE
  simp [k vs hv, k ars ha]
theorem livelyE_cases (vs ars : List Nm) : livelyE ⟨false, vs, ars⟩ = deadE ∨ livelyE ⟨false, vs, ars⟩ = ⟨false, vs, ars⟩ := by
  unfold livelyE; split
  · exact .inl rfl
  · exact .inr rfl
theorem norm_ne {e : EnvP} (h : RawE e) : NE (normE e) := by
  unfold normE
  by_cases hd : e.dead = true
  · rw [if_pos hd]; exact ne_dead
  · rw [if_neg hd]
    refine livelyE_ne ?_ ?_
    · intro x hx; obtain ⟨y, hy, rfl⟩ := List.mem_map.1 hx; exact norm_nf (h.v y hy)
    · intro x hx; obtain ⟨y, hy, rfl⟩ := List.mem_map.1 hx; exact norm_nf (h.a y hy)
theorem normE_fix {e : EnvP} (h : NE e) : normE e = e := by
  rcases h with rfl | ⟨hd, h1, h2⟩
  · rfl
  · obtain ⟨d, vs, ars⟩ := e
    simp only at hd h1 h2
    subst hd
    have k : ∀ l : List Nm, (∀ x ∈ l, Live x) → l.map normS = l := by
      intro l hl
      have e : l.map normS = l.map id := List.map_congr_left fun x hx => norm_fix (hl x hx).1
      rw [e, List.map_id]
    unfold normE
    simp only [Bool.false_eq_true, if_false]
    rw [k vs h1, k ars h2]
    exact livelyE_live (fun x hx => (h1 x hx).2) (fun x hx => (h2 x hx).2)
theorem unlike_iff {e f : EnvP} : unlikeE e f = false ↔ e.vs.length = f.vs.length ∧ e.ars.length = f.ars.length := by unfold unlikeE; simp
theorem unlike_comm (e f : EnvP) : unlikeE e f = unlikeE f e := by
  unfold unlikeE
  congr 2 <;> exact decide_eq_decide.2 ⟨Eq.symm, Eq.symm⟩
theorem all2b_iff {p : Nm → Nm → Bool} {R : Nm → Nm → Prop} {P Q : Nm → Prop} (h : ∀ x y, P x → Q y → (p x y = true ↔ R x y)) : ∀ {xs ys : List Nm}, xs.length = ys.length → (∀ x ∈ xs, P x) → (∀ y ∈ ys, Q y) → (all2b p xs ys = true ↔ All2 R xs ys)
  | [], [], _, _, _ => by simp [all2b, All2]
  | x :: xs, y :: ys, hl, hp, hq => by
    simp only [all2b, All2, Bool.and_eq_true]
    rw [h x y (hp x (by simp)) (hq y (by simp)), all2b_iff h (by simpa using hl) (fun z hz => hp z (by simp [hz])) (fun z hz => hq z (by simp [hz]))]
  | [], _ :: _, hl, _, _ => by simp at hl
  | _ :: _, [], hl, _, _ => by simp at hl
/-- the order, as sets -/
def LeE (e f : EnvP) : Prop := e.dead = true ∨ (f.dead = false ∧ All2 Sub e.vs f.vs ∧ All2 Sub e.ars f.ars)
theorem leqM_iff {e f : EnvP} (he : NE e) (hf : NE f) : leqM e f = true ↔ LeE e f := by
  unfold leqM LeE
  cases hd : e.dead with
  | true => simp
  | false =>
    obtain ⟨e1, e2⟩ := he.live hd
    cases hfd : f.dead with
    | true => simp
    | false =>
      obtain ⟨f1, f2⟩ := hf.live hfd
      have k : ∀ x y, Live x → Live y → (leqS x y = true ↔ Sub x y) := fun x y hx hy => leq_iff hx.1.raw hy.1.raw
      simp only [Bool.false_or, Bool.and_eq_true, Bool.not_eq_true', false_or, true_and, Bool.false_eq_true]
      constructor
      · rintro ⟨hu, h1, h2⟩
        obtain ⟨l1, l2⟩ := unlike_iff.1 hu
        exact ⟨(all2b_iff k l1 e1 f1).1 h1, (all2b_iff k l2 e2 f2).1 h2⟩
      · rintro ⟨h1, h2⟩
        exact ⟨unlike_iff.2 ⟨h1.len, h2.len⟩, (all2b_iff k h1.len e1 f1).2 h1, (all2b_iff k h2.len e2 f2).2 h2⟩
theorem leqE_iff {e f : EnvP} (he : RawE e) (hf : RawE f) : leqE e f = true ↔ LeE (normE e) (normE f) := leqM_iff (norm_ne he) (norm_ne hf)
theorem LeE.refl_ (e : EnvP) : LeE e e := by
  cases hd : e.dead with
  | true => exact .inl hd
  | false => exact .inr ⟨hd, All2.refl_ Sub.rfl' _, All2.refl_ Sub.rfl' _⟩
theorem sub_trans2 {xs ys zs : List Nm} (h : All2 Sub xs ys) (k : All2 Sub ys zs) : All2 Sub xs zs := All2.trans_ (R := Sub) (S := Sub) (T := Sub) (fun x y z (a : Sub x y) (b : Sub y z) => Sub.trans a b) h k
theorem LeE.trans_ {e f g : EnvP} (h : LeE e f) (h' : LeE f g) : LeE e g := by
  rcases h with h | ⟨h1, h2, h3⟩
  · exact .inl h
  · rcases h' with h' | ⟨k1, k2, k3⟩
    · rw [h1] at h'; simp at h'
    · exact .inr ⟨k1, sub_trans2 h2 k2, sub_trans2 h3 k3⟩
theorem LeE.anti {e f : EnvP} (he : NE e) (hf : NE f) (h : LeE e f) (h' : LeE f e) : e = f := by
  cases hd : e.dead with
  | true =>
    rcases h' with h' | ⟨h', _⟩
    · rw [he.dead_ hd, hf.dead_ h']
    · rw [hd] at h'; simp at h'
  | false =>
    rcases h with h | ⟨h1, h2, h3⟩
    · rw [hd] at h; simp at h
    · rcases h' with h' | ⟨k1, k2, k3⟩
      · rw [h1] at h'; simp at h'
      · obtain ⟨e1, e2⟩ := he.live hd
        obtain ⟨f1, f2⟩ := hf.live h1
        have k : ∀ x y, Live x → Live y → Sub x y → Sub y x → x = y := fun x y hx hy => nf_ext hx.1 hy.1
        have q1 := All2.eq_ k e1 f1 h2 k2
        have q2 := All2.eq_ k e2 f2 h3 k3
        obtain ⟨d, vs, ars⟩ := e
        obtain ⟨d', vs', ars'⟩ := f
        simp only at hd h1 q1 q2
        rw [hd, h1, q1, q2]
end Go.Proofs.YtmadebejnhinoaaDoor.V


set_option linter.unusedVariables false
set_option linter.unusedSimpArgs false
namespace Go.Proofs.YtmadebejnhinoaaDoor.V
open Go Go.Wk Go.RowKit

theorem live_in {x : Nm} (h : Live x) : I64 x.2.1 ∧ In x x.2.1 := ⟨(h.1.nz h.2).w.l, (h.1.nz h.2).l⟩
theorem live_of {x : Nm} (n : NF x) {v : Int} (i : In x v) : Live x := ⟨n, i.1⟩
theorem live_up {x y : Nm} (h : Live x) (n : NF y) (hs : Sub x y) : Live y := live_of n (hs _ (live_in h).1 (live_in h).2)
/-- what an operation that goes up must give -/
def UpOp (op : Nm → Nm → Nm) : Prop := ∀ x y, Live x → Live y → Live (op x y) ∧ Sub x (op x y) ∧ Sub y (op x y)
theorem up_join : UpOp joinS := fun x y hx hy => by
  obtain ⟨h1, h2, _⟩ := join_spec hx.1.raw hy.1.raw
  exact ⟨live_up hx (join_nf hx.1.raw hy.1.raw) h1, h1, h2⟩
theorem widS_live {x y : Nm} (hx : Live x) (hy : Live y) (zs : List Int) : widS zs x y = widN x y zs := by unfold widS; rw [norm_fix hx.1, norm_fix hy.1]
theorem up_wid (zs : List Int) : UpOp (widS zs) := fun x y hx hy => by
  rw [widS_live hx hy]
  obtain ⟨n, h1, h2, _⟩ := widN_spec hx.1 hy.1 zs
  exact ⟨live_up hx n h1, h1, h2⟩
theorem bothE_up {op : Nm → Nm → Nm} (ho : UpOp op) {e f : EnvP} (he : NE e) (hf : NE f) (de : e.dead = false) (df : f.dead = false) : bothE op e f = ⟨false, List.zipWith op e.vs f.vs, List.zipWith op e.ars f.ars⟩ := by
  obtain ⟨e1, e2⟩ := he.live de
  obtain ⟨f1, f2⟩ := hf.live df
  exact livelyE_live (zip_all (fun x y hx hy => (ho x y hx hy).1.2) e1 f1) (zip_all (fun x y hx hy => (ho x y hx hy).1.2) e2 f2)
def ShapedE (e f : EnvP) : Prop := e.dead = true ∨ f.dead = true ∨ unlikeE e f = false
theorem widerN_up {op : Nm → Nm → Nm} (ho : UpOp op) {e f : EnvP} (he : NE e) (hf : NE f) : NE (widerN op e f) ∧ (ShapedE e f → LeE e (widerN op e f) ∧ LeE f (widerN op e f)) := by
  unfold widerN
  cases de : e.dead with
  | true => exact ⟨hf, fun _ => ⟨.inl de, LeE.refl_ f⟩⟩
  | false =>
    cases df : f.dead with
    | true => exact ⟨he, fun _ => ⟨LeE.refl_ e, .inl df⟩⟩
    | false =>
      simp only [Bool.false_eq_true, if_false]
      cases hu : unlikeE e f with
      | true =>
        refine ⟨ne_dead, fun h => ?_⟩
        unfold ShapedE at h
        rw [de, df, hu] at h; simp at h
      | false =>
        simp only [Bool.false_eq_true, if_false]
        rw [bothE_up ho he hf de df]
        obtain ⟨e1, e2⟩ := he.live de
        obtain ⟨f1, f2⟩ := hf.live df
        obtain ⟨l1, l2⟩ := unlike_iff.1 hu
        refine ⟨.inr ⟨rfl, zip_all (fun x y hx hy => (ho x y hx hy).1) e1 f1, zip_all (fun x y hx hy => (ho x y hx hy).1) e2 f2⟩, fun _ => ⟨.inr ⟨rfl, ?_, ?_⟩, .inr ⟨rfl, ?_, ?_⟩⟩⟩
        · exact All2.zipL (fun x y hx hy => (ho x y hx hy).2.1) l1 e1 f1
        · exact All2.zipL (fun x y hx hy => (ho x y hx hy).2.1) l2 e2 f2
        · exact All2.zipR (fun x y hx hy => (ho x y hx hy).2.2) l1 e1 f1
        · exact All2.zipR (fun x y hx hy => (ho x y hx hy).2.2) l2 e2 f2
theorem lub : ∀ {xs ys zs : List Nm}, (∀ x ∈ xs, Live x) → (∀ y ∈ ys, Live y) → (∀ z ∈ zs, Live z) → All2 Sub xs zs → All2 Sub ys zs → All2 Sub (List.zipWith joinS xs ys) zs
  | [], [], [], _, _, _, _, _ => trivial
  | x :: xs, y :: ys, z :: zs, hx, hy, hz, a, b => ⟨(join_spec (hx x (by simp)).1.raw (hy y (by simp)).1.raw).2.2 z (hz z (by simp)).1.raw a.1 b.1, lub (fun w hw => hx w (by simp [hw])) (fun w hw => hy w (by simp [hw])) (fun w hw => hz w (by simp [hw])) a.2 b.2⟩
  | [], _ :: _, [], _, _, _, _, b => False.elim b
  | [], _, _ :: _, _, _, _, a, _ => False.elim a
  | _ :: _, _, [], _, _, _, a, _ => False.elim a
  | _ :: _, [], _ :: _, _, _, _, _, b => False.elim b
/-- a join is the least of what is above both -/
theorem join_least {e f g : EnvP} (he : NE e) (hf : NE f) (hg : NE g) (h1 : LeE e g) (h2 : LeE f g) : LeE (widerN joinS e f) g := by
  unfold widerN
  cases de : e.dead with
  | true => exact h2
  | false =>
    cases df : f.dead with
    | true => exact h1
    | false =>
      simp only [Bool.false_eq_true, if_false]
      cases hu : unlikeE e f with
      | true => exact .inl rfl
      | false =>
        simp only [Bool.false_eq_true, if_false]
        rw [bothE_up up_join he hf de df]
        obtain ⟨e1, e2⟩ := he.live de
        obtain ⟨f1, f2⟩ := hf.live df
        rcases h1 with h1 | ⟨gd, p1, p2⟩
        · rw [de] at h1; simp at h1
        rcases h2 with h2 | ⟨_, q1, q2⟩
        · rw [df] at h2; simp at h2
        obtain ⟨g1, g2⟩ := hg.live gd
        refine .inr ⟨gd, ?_, ?_⟩
        · exact lub e1 f1 g1 p1 q1
        · exact lub e2 f2 g2 p2 q2
theorem joinS_comm {x y : Nm} (hx : Live x) (hy : Live y) : joinS x y = joinS y x := by
  obtain ⟨a1, a2, a3⟩ := join_spec hx.1.raw hy.1.raw
  obtain ⟨b1, b2, b3⟩ := join_spec hy.1.raw hx.1.raw
  exact nf_ext (join_nf hx.1.raw hy.1.raw) (join_nf hy.1.raw hx.1.raw) (a3 _ (join_nf hy.1.raw hx.1.raw).raw b2 b1) (b3 _ (join_nf hx.1.raw hy.1.raw).raw a2 a1)
theorem meetS_comm {x y : Nm} (hx : Live x) (hy : Live y) : meetS x y = meetS y x := by
  refine nf_iff (meet_nf hx.1.raw hy.1.raw) (meet_nf hy.1.raw hx.1.raw) fun v hv => ?_
  rw [meet_in hx.1.raw hy.1.raw hv, meet_in hy.1.raw hx.1.raw hv]
  exact And.comm
theorem widerN_comm {op : Nm → Nm → Nm} (hc : ∀ x y, Live x → Live y → op x y = op y x) {e f : EnvP} (he : NE e) (hf : NE f) : widerN op e f = widerN op f e := by
  unfold widerN
  cases de : e.dead with
  | true =>
    cases df : f.dead with
    | true => simp [he.dead_ de, hf.dead_ df]
    | false => simp
  | false =>
    cases df : f.dead with
    | true => simp
    | false =>
      obtain ⟨e1, e2⟩ := he.live de
      obtain ⟨f1, f2⟩ := hf.live df
      simp only [Bool.false_eq_true, if_false, unlike_comm f e]
      unfold bothE
      rw [zip_comm hc e1 f1, zip_comm hc e2 f2]
theorem meetM_comm {e f : EnvP} (he : NE e) (hf : NE f) : meetM e f = meetM f e := by
  unfold meetM
  cases de : e.dead with
  | true => simp
  | false =>
    cases df : f.dead with
    | true => simp
    | false =>
      obtain ⟨e1, e2⟩ := he.live de
      obtain ⟨f1, f2⟩ := hf.live df
      simp only [Bool.false_or, unlike_comm f e]
      unfold bothE
      rw [zip_comm (fun x y => meetS_comm) e1 f1, zip_comm (fun x y => meetS_comm) e2 f2]
theorem meetM_ne {e f : EnvP} (he : NE e) (hf : NE f) : NE (meetM e f) := by
  unfold meetM
  split
  · exact ne_dead
  · rename_i h
    simp only [Bool.not_eq_true, Bool.or_eq_false_iff] at h
    obtain ⟨e1, e2⟩ := he.live h.1.1
    obtain ⟨f1, f2⟩ := hf.live h.1.2
    exact livelyE_ne (zip_all (fun x y hx hy => meet_nf hx.1.raw hy.1.raw) e1 f1) (zip_all (fun x y hx hy => meet_nf hx.1.raw hy.1.raw) e2 f2)
/-- what the common part is, where it isn't dead -/
theorem meetM_live {e f : EnvP} (he : NE e) (hf : NE f) (h : (meetM e f).dead = false) : e.dead = false ∧ f.dead = false ∧ unlikeE e f = false ∧ meetM e f = ⟨false, List.zipWith meetS e.vs f.vs, List.zipWith meetS e.ars f.ars⟩ := by
  unfold meetM at h ⊢
  split at h
  · simp [deadE] at h
  · rename_i g
    rw [if_neg g]
    simp only [Bool.not_eq_true, Bool.or_eq_false_iff] at g
    refine ⟨g.1.1, g.1.2, g.2, ?_⟩
    unfold bothE at h ⊢
    rcases livelyE_cases (List.zipWith meetS e.vs f.vs) (List.zipWith meetS e.ars f.ars) with k | k
    · rw [k] at h; simp [deadE] at h
    · exact k
theorem meet_subs {x y : Nm} (hx : Live x) (hy : Live y) : Sub (meetS x y) x ∧ Sub (meetS x y) y :=
  ⟨fun v hv i => ((meet_in hx.1.raw hy.1.raw hv).1 i).1, fun v hv i => ((meet_in hx.1.raw hy.1.raw hv).1 i).2⟩
theorem All2.flip {R S : Nm → Nm → Prop} (h : ∀ x y, R x y → S y x) : ∀ {xs ys : List Nm}, All2 R xs ys → All2 S ys xs
  | [], [], _ => trivial
  | x :: xs, y :: ys, a => ⟨h x y a.1, All2.flip h a.2⟩
theorem meetM_low {e f : EnvP} (he : NE e) (hf : NE f) : LeE (meetM e f) e ∧ LeE (meetM e f) f := by
  cases hd : (meetM e f).dead with
  | true => exact ⟨.inl hd, .inl hd⟩
  | false =>
    obtain ⟨de, df, hu, eq⟩ := meetM_live he hf hd
    obtain ⟨e1, e2⟩ := he.live de
    obtain ⟨f1, f2⟩ := hf.live df
    obtain ⟨l1, l2⟩ := unlike_iff.1 hu
    rw [eq]
    have k1 := fun {xs ys : List Nm} (l : xs.length = ys.length) (hx : ∀ x ∈ xs, Live x) (hy : ∀ y ∈ ys, Live y) => All2.zipL (R := fun x z => Sub z x) (op := meetS) (fun x y hx hy => (meet_subs hx hy).1) l hx hy
    have k2 := fun {xs ys : List Nm} (l : xs.length = ys.length) (hx : ∀ x ∈ xs, Live x) (hy : ∀ y ∈ ys, Live y) => All2.zipR (R := fun x z => Sub z x) (op := meetS) (fun x y hx hy => (meet_subs hx hy).2) l hx hy
    exact ⟨.inr ⟨de, (k1 l1 e1 f1).flip (fun _ _ h => h), (k1 l2 e2 f2).flip (fun _ _ h => h)⟩, .inr ⟨df, (k2 l1 e1 f1).flip (fun _ _ h => h), (k2 l2 e2 f2).flip (fun _ _ h => h)⟩⟩
theorem glb {xs : List Nm} : ∀ {gs xs ys : List Nm}, (∀ g ∈ gs, Live g) → (∀ x ∈ xs, Live x) → (∀ y ∈ ys, Live y) → All2 Sub gs xs → All2 Sub gs ys → All2 Sub gs (List.zipWith meetS xs ys) ∧ ∀ z ∈ List.zipWith meetS xs ys, z.1 = false
  | [], [], [], _, _, _, _, _ => ⟨trivial, by simp⟩
  | g :: gs, x :: xs, y :: ys, hg, hx, hy, a, b => by
    have k : Sub g (meetS x y) := fun v hv i => (meet_in (hx x (by simp)).1.raw (hy y (by simp)).1.raw hv).2 ⟨a.1 v hv i, b.1 v hv i⟩
    obtain ⟨r1, r2⟩ := glb (xs := xs) (fun w hw => hg w (by simp [hw])) (fun w hw => hx w (by simp [hw])) (fun w hw => hy w (by simp [hw])) a.2 b.2
    refine ⟨⟨k, r1⟩, fun z hz => ?_⟩
    simp only [List.zipWith_cons_cons, List.mem_cons] at hz
    rcases hz with rfl | hz
    · exact (live_up (hg g (by simp)) (meet_nf (hx x (by simp)).1.raw (hy y (by simp)).1.raw) k).2
    · exact r2 z hz
theorem meetM_great {e f g : EnvP} (he : NE e) (hf : NE f) (hg : NE g) (h1 : LeE g e) (h2 : LeE g f) : LeE g (meetM e f) := by
  cases dg : g.dead with
  | true => exact .inl dg
  | false =>
    obtain ⟨g1, g2⟩ := hg.live dg
    rcases h1 with h1 | ⟨de, p1, p2⟩
    · rw [dg] at h1; simp at h1
    rcases h2 with h2 | ⟨df, q1, q2⟩
    · rw [dg] at h2; simp at h2
    obtain ⟨e1, e2⟩ := he.live de
    obtain ⟨f1, f2⟩ := hf.live df
    have hu : unlikeE e f = false := unlike_iff.2 ⟨p1.len.symm.trans q1.len, p2.len.symm.trans q2.len⟩
    obtain ⟨r1, r2⟩ := glb (xs := []) g1 e1 f1 p1 q1
    obtain ⟨s1, s2⟩ := glb (xs := []) g2 e2 f2 p2 q2
    have eq : meetM e f = ⟨false, List.zipWith meetS e.vs f.vs, List.zipWith meetS e.ars f.ars⟩ := by
      unfold meetM bothE
      rw [de, df, hu]
      exact livelyE_live r2 s2
    rw [eq]
    exact .inr ⟨rfl, r1, s1⟩
/-- members -/
def hasVs : List Nm → List Int → Bool
  | x :: xs, v :: vs => decide (In x v) && hasVs xs vs
  | _, _ => true
def hasAs : List Nm → List (List Int) → Bool
  | x :: xs, l :: ls => l.all (fun v => decide (In x v)) && hasAs xs ls
  | _, _ => true
def hasM (e : EnvP) (vs : List Int) (ars : List (List Int)) : Bool := !(e.dead || !decide (e.vs.length = vs.length) || !decide (e.ars.length = ars.length)) && (hasVs e.vs vs && hasAs e.ars ars)
def hasE (e : EnvP) (vs : List Int) (ars : List (List Int)) : Bool := hasM (normE e) vs ars
theorem hasVs_iff : ∀ {xs : List Nm} {vs : List Int}, xs.length = vs.length → (hasVs xs vs = true ↔ ∀ i (h : i < xs.length) (h' : i < vs.length), In xs[i] vs[i])
  | [], [], _ => by simp [hasVs]
  | x :: xs, v :: vs, hl => by
    simp only [hasVs, Bool.and_eq_true, decide_eq_true_eq]
    rw [hasVs_iff (by simpa using hl)]
    constructor
    · rintro ⟨h0, h⟩ i hi hi'
      cases i with
      | zero => exact h0
      | succ i => exact h i (by simpa using hi) (by simpa using hi')
    · intro h
      exact ⟨h 0 (by simp) (by simp), fun i hi hi' => h (i + 1) (by simpa using hi) (by simpa using hi')⟩
  | [], _ :: _, hl => by simp at hl
  | _ :: _, [], hl => by simp at hl
theorem hasAs_iff : ∀ {xs : List Nm} {ls : List (List Int)}, xs.length = ls.length → (hasAs xs ls = true ↔ ∀ i (h : i < xs.length) (h' : i < ls.length), ∀ v ∈ ls[i], In xs[i] v)
  | [], [], _ => by simp [hasAs]
  | x :: xs, l :: ls, hl => by
    simp only [hasAs, Bool.and_eq_true, List.all_eq_true, decide_eq_true_eq]
    rw [hasAs_iff (by simpa using hl)]
    constructor
    · rintro ⟨h0, h⟩ i hi hi'
      cases i with
      | zero => exact h0
      | succ i => exact h i (by simpa using hi) (by simpa using hi')
    · intro h
      exact ⟨h 0 (by simp) (by simp), fun i hi hi' => h (i + 1) (by simpa using hi) (by simpa using hi')⟩
  | [], _ :: _, hl => by simp at hl
  | _ :: _, [], hl => by simp at hl
/-- a store of numbers -/
structure StoreI (vs : List Int) (ars : List (List Int)) : Prop where
  v : ∀ x ∈ vs, I64 x
  a : ∀ l ∈ ars, ∀ x ∈ l, I64 x
theorem hasM_iff {e : EnvP} {vs : List Int} {ars : List (List Int)} : hasM e vs ars = true ↔ e.dead = false ∧ e.vs.length = vs.length ∧ e.ars.length = ars.length ∧ (∀ i (h : i < e.vs.length) (h' : i < vs.length), In e.vs[i] vs[i]) ∧ ∀ i (h : i < e.ars.length) (h' : i < ars.length), ∀ v ∈ ars[i], In e.ars[i] v := by
  unfold hasM
  simp only [Bool.and_eq_true, Bool.not_eq_true', Bool.or_eq_false_iff, Bool.not_eq_false', decide_eq_true_eq]
  constructor
  · rintro ⟨⟨⟨h1, h2⟩, h3⟩, h4, h5⟩
    exact ⟨h1, h2, h3, (hasVs_iff h2).1 h4, (hasAs_iff h3).1 h5⟩
  · rintro ⟨h1, h2, h3, h4, h5⟩
    exact ⟨⟨⟨h1, h2⟩, h3⟩, (hasVs_iff h2).2 h4, (hasAs_iff h3).2 h5⟩
theorem All2.at_ {R : Nm → Nm → Prop} : ∀ {xs ys : List Nm}, All2 R xs ys → ∀ i (h : i < xs.length) (h' : i < ys.length), R xs[i] ys[i]
  | x :: xs, y :: ys, a, 0, _, _ => a.1
  | x :: xs, y :: ys, a, i + 1, h, h' => All2.at_ a.2 i (by simpa using h) (by simpa using h')
theorem has_le {e f : EnvP} (h : LeE e f) {vs : List Int} {ars : List (List Int)} (hI : StoreI vs ars) (hs : hasM e vs ars = true) : hasM f vs ars = true := by
  obtain ⟨h1, h2, h3, h4, h5⟩ := hasM_iff.1 hs
  rcases h with h | ⟨df, p, q⟩
  · rw [h1] at h; simp at h
  · have lp := p.len
    have lq := q.len
    refine hasM_iff.2 ⟨df, by omega, by omega, fun i hi hi' => p.at_ i (by omega) hi _ (hI.v _ (List.getElem_mem hi')) (h4 i (by omega) hi'), fun i hi hi' v hv => q.at_ i (by omega) hi _ (hI.a _ (List.getElem_mem hi') v hv) (h5 i (by omega) hi' v hv)⟩
theorem has_meet {e f : EnvP} (he : NE e) (hf : NE f) {vs : List Int} {ars : List (List Int)} (hI : StoreI vs ars) (hne : ∀ l ∈ ars, l ≠ []) : hasM (meetM e f) vs ars = (hasM e vs ars && hasM f vs ars) := by
  rw [Bool.eq_iff_iff, Bool.and_eq_true]
  obtain ⟨m1, m2⟩ := meetM_low he hf
  refine ⟨fun h => ⟨has_le m1 hI h, has_le m2 hI h⟩, ?_⟩
  rintro ⟨h, h'⟩
  obtain ⟨h1, h2, h3, h4, h5⟩ := hasM_iff.1 h
  obtain ⟨k1, k2, k3, k4, k5⟩ := hasM_iff.1 h'
  obtain ⟨e1, e2⟩ := he.live h1
  obtain ⟨f1, f2⟩ := hf.live k1
  have hu : unlikeE e f = false := unlike_iff.2 ⟨by omega, by omega⟩
  have iv : ∀ i (hi : i < (List.zipWith meetS e.vs f.vs).length) (hi' : i < vs.length), In (List.zipWith meetS e.vs f.vs)[i] vs[i] := by
    intro i hi hi'
    rw [List.getElem_zipWith]
    exact (meet_in (e1 _ (List.getElem_mem _)).1.raw (f1 _ (List.getElem_mem _)).1.raw (hI.v _ (List.getElem_mem hi'))).2 ⟨h4 i (by omega) hi', k4 i (by omega) hi'⟩
  have ia : ∀ i (hi : i < (List.zipWith meetS e.ars f.ars).length) (hi' : i < ars.length), ∀ v ∈ ars[i], In (List.zipWith meetS e.ars f.ars)[i] v := by
    intro i hi hi' v hv
    rw [List.getElem_zipWith]
    exact (meet_in (e2 _ (List.getElem_mem _)).1.raw (f2 _ (List.getElem_mem _)).1.raw (hI.a _ (List.getElem_mem hi') v hv)).2 ⟨h5 i (by omega) hi' v hv, k5 i (by omega) hi' v hv⟩
  have lv : (List.zipWith meetS e.vs f.vs).length = vs.length := by rw [List.length_zipWith]; omega
  have la : (List.zipWith meetS e.ars f.ars).length = ars.length := by rw [List.length_zipWith]; omega
  have eq : meetM e f = ⟨false, List.zipWith meetS e.vs f.vs, List.zipWith meetS e.ars f.ars⟩ := by
    unfold meetM bothE
    rw [h1, k1, hu]
    refine livelyE_live (fun z hz => ?_) (fun z hz => ?_)
    · obtain ⟨i, hi, rfl⟩ := List.getElem_of_mem hz
      exact (iv i hi (by omega)).1
    · obtain ⟨i, hi, rfl⟩ := List.getElem_of_mem hz
      have hi' : i < ars.length := by omega
      cases hl : ars[i] with
      | nil => exact absurd hl (hne _ (List.getElem_mem hi'))
      | cons v r => exact (ia i hi hi' v (by rw [hl]; simp)).1
  rw [eq]
  exact hasM_iff.2 ⟨rfl, lv, la, iv, ia⟩
/-- how often an abstract store may change yet -/
def potL (zs : List Int) (l : List Nm) : Int := (l.map (pot zs)).foldr (· + ·) 0
theorem potL_bd (zs : List Int) : ∀ l : List Nm, 0 ≤ potL zs l ∧ potL zs l ≤ l.length * (2 * zs.length + 6)
  | [] => by simp [potL]
  | x :: l => by
    have := potL_bd zs l
    have := pot_le zs x
    have e : potL zs (x :: l) = pot zs x + potL zs l := rfl
    rw [e]
    simp only [List.length_cons, Int.natCast_add, Int.add_mul]
    omega
theorem potL_wid (zs : List Int) : ∀ {xs ys : List Nm}, xs.length = ys.length → (∀ x ∈ xs, Live x) → (∀ y ∈ ys, Live y) → potL zs (List.zipWith (widS zs) xs ys) ≤ potL zs xs ∧ (List.zipWith (widS zs) xs ys ≠ xs → potL zs (List.zipWith (widS zs) xs ys) + 1 ≤ potL zs xs)
  | [], [], _, _, _ => by simp
  | x :: xs, y :: ys, hl, hx, hy => by
    obtain ⟨r1, r2⟩ := potL_wid zs (xs := xs) (ys := ys) (by simpa using hl) (fun w hw => hx w (by simp [hw])) (fun w hw => hy w (by simp [hw]))
    have e1 : potL zs (List.zipWith (widS zs) (x :: xs) (y :: ys)) = pot zs (widS zs x y) + potL zs (List.zipWith (widS zs) xs ys) := rfl
    have e2 : potL zs (x :: xs) = pot zs x + potL zs xs := rfl
    have hw := (widN_spec (hx x (by simp)).1 (hy y (by simp)).1 zs).2.2.2
    rw [← widS_live (hx x (by simp)) (hy y (by simp))] at hw
    rw [e1, e2]
    by_cases h1 : widS zs x y = x
    · rw [h1]
      refine ⟨by omega, fun hne => ?_⟩
      have := r2 (fun e => hne (by simp [h1, e]))
      omega
    · have := hw h1
      exact ⟨by omega, fun _ => by omega⟩
  | [], _ :: _, hl, _, _ => by simp at hl
  | _ :: _, [], hl, _, _ => by simp at hl
def potE (zs : List Int) (e : EnvP) : Int := potL zs e.vs + potL zs e.ars
def sizeE (e : EnvP) : Nat := e.vs.length + e.ars.length
theorem potE_bd (zs : List Int) (e : EnvP) : 0 ≤ potE zs e ∧ potE zs e ≤ sizeE e * (2 * zs.length + 6) := by
  have := potL_bd zs e.vs
  have := potL_bd zs e.ars
  unfold potE sizeE
  simp only [Int.natCast_add, Int.add_mul]
  omega
/-- one widening of an Env that isn't dead, by one of its shape: it is above, of the same shape, and a change costs -/
theorem wid_step (zs : List Int) {e f : EnvP} (he : NE e) (hf : NE f) (de : e.dead = false) (hs : ShapedE e f) : NE (widerN (widS zs) e f) ∧ (widerN (widS zs) e f).dead = false ∧ sizeE (widerN (widS zs) e f) = sizeE e ∧ potE zs (widerN (widS zs) e f) ≤ potE zs e ∧ (widerN (widS zs) e f ≠ e → potE zs (widerN (widS zs) e f) + 1 ≤ potE zs e) := by
  refine ⟨(widerN_up (up_wid zs) he hf).1, ?_⟩
  unfold widerN
  rw [de]
  cases df : f.dead with
  | true => simp [de]
  | false =>
    have hu : unlikeE e f = false := by
      rcases hs with h | h | h
      · rw [de] at h; simp at h
      · rw [df] at h; simp at h
      · exact h
    simp only [Bool.false_eq_true, if_false, hu]
    rw [bothE_up (up_wid zs) he hf de df]
    obtain ⟨e1, e2⟩ := he.live de
    obtain ⟨f1, f2⟩ := hf.live df
    obtain ⟨l1, l2⟩ := unlike_iff.1 hu
    obtain ⟨a1, a2⟩ := potL_wid zs l1 e1 f1
    obtain ⟨b1, b2⟩ := potL_wid zs l2 e2 f2
    refine ⟨rfl, by simp only [sizeE, List.length_zipWith]; omega, by simp only [potE]; omega, fun hne => ?_⟩
    simp only [potE]
    by_cases g : List.zipWith (widS zs) e.vs f.vs = e.vs
    · by_cases g2 : List.zipWith (widS zs) e.ars f.ars = e.ars
      · exact absurd (by obtain ⟨d, v, a⟩ := e; simp only at de g g2 ⊢; rw [de, g, g2]) hne
      · have := b2 g2; omega
    · have := a2 g; omega
end Go.Proofs.YtmadebejnhinoaaDoor.V


set_option linter.unusedVariables false
set_option linter.unusedSimpArgs false
namespace Go.Proofs.YtmadebejnhinoaaDoor.V
open Go Go.Wk Go.RowKit

def shapedB (e f : EnvP) : Bool := e.dead || (f.dead || (decide (e.vs.length = f.vs.length) && decide (e.ars.length = f.ars.length)))
theorem shapedB_iff {e f : EnvP} : shapedB e f = true ↔ ShapedE e f := by
  unfold shapedB ShapedE
  rw [unlike_iff]; simp
section
variable {e f g : EnvP} (he : RawE e) (hf : RawE f) (hg : RawE g) (zs : List Int)
include he
theorem leq_refl : leqE e e = true := (leqE_iff he he).2 (LeE.refl_ _)
include hf
theorem meetE_ne : NE (meetE e f) := meetM_ne (norm_ne he) (norm_ne hf)
theorem joinE_ne : NE (joinE e f) := (widerN_up up_join (norm_ne he) (norm_ne hf)).1
theorem widE_ne : NE (widE zs e f) := (widerN_up (up_wid zs) (norm_ne he) (norm_ne hf)).1
theorem leq_same : (leqE e f && leqE f e) = sameE e f := by
  rw [Bool.eq_iff_iff, Bool.and_eq_true, leqE_iff he hf, leqE_iff hf he]
  unfold sameE
  rw [decide_eq_true_eq]
  exact ⟨fun h => h.1.anti (norm_ne he) (norm_ne hf) h.2, fun h => by rw [h]; exact ⟨LeE.refl_ _, LeE.refl_ _⟩⟩
theorem leq_meetE : leqE (meetE e f) e = true ∧ leqE (meetE e f) f = true := by
  have n := meetE_ne he hf
  obtain ⟨h1, h2⟩ := meetM_low (norm_ne he) (norm_ne hf)
  exact ⟨(leqE_iff n.raw he).2 (by rw [normE_fix n]; exact h1), (leqE_iff n.raw hf).2 (by rw [normE_fix n]; exact h2)⟩
theorem same_meet : sameE (meetE e f) (meetE f e) = true := by
  unfold sameE
  rw [show meetE e f = meetE f e from meetM_comm (norm_ne he) (norm_ne hf)]
  simp
theorem same_join : sameE (joinE e f) (joinE f e) = true := by
  unfold sameE
  rw [show joinE e f = joinE f e from widerN_comm (fun x y => joinS_comm) (norm_ne he) (norm_ne hf)]
  simp
theorem leq_joinE (hs : shapedB (normE e) (normE f) = true) : leqE e (joinE e f) = true ∧ leqE f (joinE e f) = true := by
  have n := joinE_ne he hf
  obtain ⟨h1, h2⟩ := (widerN_up up_join (norm_ne he) (norm_ne hf)).2 (shapedB_iff.1 hs)
  exact ⟨(leqE_iff he n.raw).2 (by rw [normE_fix n]; exact h1), (leqE_iff hf n.raw).2 (by rw [normE_fix n]; exact h2)⟩
theorem leq_wid (hs : shapedB (normE e) (normE f) = true) : leqE e (widE zs e f) = true ∧ leqE f (widE zs e f) = true := by
  have n := widE_ne he hf zs
  obtain ⟨h1, h2⟩ := (widerN_up (up_wid zs) (norm_ne he) (norm_ne hf)).2 (shapedB_iff.1 hs)
  exact ⟨(leqE_iff he n.raw).2 (by rw [normE_fix n]; exact h1), (leqE_iff hf n.raw).2 (by rw [normE_fix n]; exact h2)⟩
theorem leq_join_wid (hs : shapedB (normE e) (normE f) = true) : leqE (joinE e f) (widE zs e f) = true := by
  have n := joinE_ne he hf
  have m := widE_ne he hf zs
  obtain ⟨h1, h2⟩ := (widerN_up (up_wid zs) (norm_ne he) (norm_ne hf)).2 (shapedB_iff.1 hs)
  refine (leqE_iff n.raw m.raw).2 ?_
  rw [normE_fix n, normE_fix m]
  exact join_least (norm_ne he) (norm_ne hf) m h1 h2
theorem join_abs (hs : shapedB (normE e) (normE f) = true) (h : leqE e f = true) : sameE (joinE e f) f = true := by
  have n := joinE_ne he hf
  obtain ⟨h1, h2⟩ := (widerN_up up_join (norm_ne he) (norm_ne hf)).2 (shapedB_iff.1 hs)
  unfold sameE
  rw [normE_fix n, decide_eq_true_eq]
  exact LeE.anti n (norm_ne hf) (join_least (norm_ne he) (norm_ne hf) (norm_ne hf) ((leqE_iff he hf).1 h) (LeE.refl_ _)) h2
include hg
theorem leq_tran (h : leqE e f = true) (h' : leqE f g = true) : leqE e g = true := (leqE_iff he hg).2 (((leqE_iff he hf).1 h).trans_ ((leqE_iff hf hg).1 h'))
theorem leq_glb (h : leqE g e = true) (h' : leqE g f = true) : leqE g (meetE e f) = true := by
  have n := meetE_ne he hf
  refine (leqE_iff hg n.raw).2 ?_
  rw [normE_fix n]
  exact meetM_great (norm_ne he) (norm_ne hf) (norm_ne hg) ((leqE_iff hg he).1 h) ((leqE_iff hg hf).1 h')
end
theorem unshaped {e f : EnvP} (zs : List Int) (hs : shapedB (normE e) (normE f) = false) : (meetE e f).dead = true ∧ (joinE e f).dead = true ∧ (widE zs e f).dead = true := by
  have hn : ¬ ShapedE (normE e) (normE f) := fun h => by rw [shapedB_iff.2 h] at hs; simp at hs
  unfold ShapedE at hn
  simp only [not_or, Bool.not_eq_true, Bool.not_eq_false] at hn
  obtain ⟨h1, h2, h3⟩ := hn
  unfold meetE meetM joinE widE widerE widerN
  rw [h1, h2, h3]
  exact ⟨rfl, rfl, rfl⟩
section
variable {e f : EnvP} (he : RawE e) (hf : RawE f) {vs : List Int} {ars : List (List Int)} (hI : StoreI vs ars) (zs : List Int)
include he
theorem has_norm : hasE (normE e) vs ars = hasE e vs ars := by unfold hasE; rw [normE_fix (norm_ne he)]
include hf
include hI
theorem has_leq (h : leqE e f = true) (ha : hasE e vs ars = true) : hasE f vs ars = true := has_le ((leqE_iff he hf).1 h) hI ha
theorem has_meetE (hne : ∀ l ∈ ars, l ≠ []) : hasE (meetE e f) vs ars = (hasE e vs ars && hasE f vs ars) := by
  unfold hasE
  rw [normE_fix (meetE_ne he hf)]
  exact has_meet (norm_ne he) (norm_ne hf) hI hne
theorem has_up (hs : shapedB (normE e) (normE f) = true) (h : (hasE e vs ars || hasE f vs ars) = true) : hasE (joinE e f) vs ars = true ∧ hasE (widE zs e f) vs ars = true := by
  obtain ⟨a1, a2⟩ := leq_joinE he hf hs
  obtain ⟨b1, b2⟩ := leq_wid he hf zs hs
  have n1 := (joinE_ne he hf).raw
  have n2 := (widE_ne he hf zs).raw
  rcases Bool.or_eq_true_iff.1 h with h | h
  · exact ⟨has_leq he n1 hI a1 h, has_leq he n2 hI b1 h⟩
  · exact ⟨has_leq hf n1 hI a2 h, has_leq hf n2 hI b2 h⟩
end
/-- a row of widenings -/
structure Chain (zs : List Int) (e : EnvP) (n c : Int) : Prop where
  ne : NE e
  dead_ : e.dead = true → c = 0
  live : e.dead = false → (sizeE e : Int) ≤ n ∧ c + potE zs e ≤ n * (2 * zs.length + 6) + 1
  n0 : (sizeE e : Int) ≤ n
  c0 : 0 ≤ c
theorem Chain.start (zs : List Int) {e : EnvP} (h : NE e) : Chain zs e (sizeE e) 0 where
  ne := h
  dead_ _ := rfl
  live _ := ⟨Int.le_refl _, by have := (potE_bd zs e).2; omega⟩
  n0 := Int.le_refl _
  c0 := Int.le_refl _
theorem Chain.fin {zs : List Int} {e : EnvP} {n c : Int} (h : Chain zs e n c) : c ≤ n * (2 * (zs.length + 3) + 1) + 1 := by
  have hn : 0 ≤ n := by have := h.n0; omega
  have e1 : n * (2 * ((zs.length : Int) + 3) + 1) = n * (2 * zs.length + 6) + n := by
    rw [show 2 * ((zs.length : Int) + 3) + 1 = (2 * zs.length + 6) + 1 by omega, Int.mul_add, Int.mul_one]
  have e2 : 0 ≤ n * (2 * (zs.length : Int) + 6) := Int.mul_nonneg hn (by omega)
  cases hd : e.dead with
  | true => have := h.dead_ hd; omega
  | false =>
    obtain ⟨_, h2⟩ := h.live hd
    have := (potE_bd zs e).1
    omega
/-- the next one -/
theorem Chain.step {zs : List Int} {e f : EnvP} {n c : Int} (h : Chain zs e n c) (hf : NE f) (hs : e.dead = true ∨ shapedB e f = true) :
    leqE e (widE zs e (joinE e f)) = true ∧ Chain zs (widE zs e (joinE e f)) (max n (sizeE (widE zs e (joinE e f)))) (if sameE e (widE zs e (joinE e f)) = true then c else c + 1) := by
  have ne := h.ne
  have nj : NE (joinE e f) := joinE_ne ne.raw hf.raw
  have sh : ShapedE e f := by
    rcases hs with h' | h'
    · exact .inl h'
    · exact shapedB_iff.1 h'
  have ej : joinE e f = widerN joinS e f := by unfold joinE widerE; rw [normE_fix ne, normE_fix hf]
  have ew : widE zs e (joinE e f) = widerN (widS zs) e (joinE e f) := by unfold widE widerE; rw [normE_fix ne, normE_fix nj]
  have nw : NE (widE zs e (joinE e f)) := widE_ne ne.raw nj.raw zs
  -- the join has the shape
  have shj : ShapedE e (joinE e f) := by
    cases de : e.dead with
    | true => exact .inl de
    | false =>
      rw [ej]
      obtain ⟨u1, u2⟩ := (widerN_up up_join ne hf).2 sh
      rcases u1 with u1 | ⟨d1, u2, u3⟩
      · rw [de] at u1; simp at u1
      · exact .inr (.inr (unlike_iff.2 ⟨u2.len, u3.len⟩))
  have same_iff : sameE e (widE zs e (joinE e f)) = true ↔ widE zs e (joinE e f) = e := by
    unfold sameE; rw [normE_fix ne, normE_fix nw, decide_eq_true_eq]; exact eq_comm
  refine ⟨?_, ?_⟩
  · refine (leqE_iff ne.raw nw.raw).2 ?_
    rw [normE_fix ne, normE_fix nw, ew]
    exact ((widerN_up (up_wid zs) ne nj).2 shj).1
  · have bd := potE_bd zs (widE zs e (joinE e f))
    have hn : 0 ≤ n := by have := h.n0; omega
    have nn : n * (2 * (zs.length : Int) + 6) ≤ max n (sizeE (widE zs e (joinE e f))) * (2 * (zs.length : Int) + 6) := Int.mul_le_mul_of_nonneg_right (by omega) (by omega)
    have ns : (sizeE (widE zs e (joinE e f)) : Int) * (2 * (zs.length : Int) + 6) ≤ max n (sizeE (widE zs e (joinE e f))) * (2 * (zs.length : Int) + 6) := Int.mul_le_mul_of_nonneg_right (by omega) (by omega)
    have c0 := h.c0
    cases de : e.dead with
    | true =>
      have hc := h.dead_ de
      refine ⟨nw, fun hd => ?_, fun hd => ⟨by omega, ?_⟩, by omega, by split <;> omega⟩
      · rw [if_pos (same_iff.2 ((nw.dead_ hd).trans (ne.dead_ de).symm))]; exact hc
      · split <;> omega
    | false =>
      obtain ⟨h1, h2⟩ := h.live de
      obtain ⟨s1, s2, s3, s4, s5⟩ := wid_step zs ne nj de shj
      rw [← ew] at s1 s2 s3 s4 s5
      refine ⟨nw, fun hd => by rw [s2] at hd; simp at hd, fun _ => ⟨by omega, ?_⟩, by omega, by split <;> omega⟩
      by_cases g : sameE e (widE zs e (joinE e f)) = true
      · rw [if_pos g]; omega
      · rw [if_neg g]
        have := s5 (fun e' => g (same_iff.2 e'))
        omega
end Go.Proofs.YtmadebejnhinoaaDoor.V

