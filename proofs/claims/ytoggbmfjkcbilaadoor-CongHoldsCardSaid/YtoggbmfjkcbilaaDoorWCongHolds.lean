/- CongHolds: the law function, evaluated: it answers true. Conditions: none. -/
import Derived.Test.YtoggbmfjkcbilaaDoorN22
set_option linter.unusedVariables false
set_option linter.unusedSimpArgs false
namespace Go.Proofs.YtoggbmfjkcbilaaDoor.V
open Go Go.Wk Go.RowKit

theorem negU {m r : Int} (e : Bool) (hm : U64 m) (hr : U64 r) : U64 (negS m r e).1 ∧ U64 (negS m r e).2 := by
  unfold negS
  by_cases c : m = 0
  · simp only [if_pos c]; exact ⟨z_U, u64u _⟩
  · simp only [if_neg c]; exact bm_res (by unfold U64 at hm; omega)
theorem addU {a0 a1 b0 b1 : Int} (e : Bool) (h1 : U64 a0) (h2 : U64 a1) (h3 : U64 b0) (h4 : U64 b1) : U64 (addS a0 a1 b0 b1 e).1 ∧ U64 (addS a0 a1 b0 b1 e).2 := by
  unfold addS
  by_cases c : a0 = 0 ∧ b0 = 0
  · simp only [if_pos c]; exact ⟨z_U, u64u _⟩
  · simp only [if_neg c]; exact bm_res (gg_pos h1.1 h3.1 (by omega))
theorem subU {a0 a1 b0 b1 : Int} (e : Bool) (h1 : U64 a0) (h2 : U64 a1) (h3 : U64 b0) (h4 : U64 b1) : U64 (subS a0 a1 b0 b1 e).1 ∧ U64 (subS a0 a1 b0 b1 e).2 := by
  unfold subS
  by_cases c : a0 = 0 ∧ b0 = 0
  · simp only [if_pos c]; exact ⟨z_U, u64u _⟩
  · simp only [if_neg c]; exact bm_res (gg_pos h1.1 h3.1 (by omega))
theorem mulU {a0 a1 b0 b1 : Int} (e : Bool) (h1 : U64 a0) (h2 : U64 a1) (h3 : U64 b0) (h4 : U64 b1) : U64 (mulS a0 a1 b0 b1 e).1 ∧ U64 (mulS a0 a1 b0 b1 e).2 := by
  unfold mulS
  by_cases c : a0 = 0 ∧ b0 = 0
  · simp only [if_pos c]; exact ⟨z_U, u64u _⟩
  · by_cases c2 : a0 = 0 ∧ a1 = 0 ∨ b0 = 0 ∧ b1 = 0
    · simp only [if_neg c, if_pos c2]; exact ⟨z_U, z_U⟩
    · simp only [if_neg c, if_neg c2]; exact bm_res (mg_pos h1 h2 h3 h4 c c2)
theorem con {x : Int} (hx : I64 x) : IntKind.i64.wrap (IntKind.u64.wrap x) = x := by rw [wi_wu]; exact wi_id hx.1 hx.2
theorem un {x : Int} (hx : I64 x) (h : x ≠ 0) : IntKind.u64.wrap x ≠ 0 := by unfold I64 at hx; rw [wu_eq]; omega
theorem congHolds.v {γ : Type} (n : γ) (k : Bool → γ) {a0 a1 b0 b1 p q : Int} (h1 : U64 a0) (h2 : U64 a1) (h3 : U64 b0) (h4 : U64 b1) (hp : I64 p) (hq : I64 q) : law_CongHolds.c n k a0 a1 b0 b1 p q = k true := by
  obtain ⟨sa, sa2⟩ := some_v h1 h2 hp
  obtain ⟨sb, sb2⟩ := some_v h3 h4 hq
  unfold law_CongHolds.c
  (try unfold law_CongHolds.c0)
  by_cases hs : (law_some a0 a1 p).2 = true ∧ (law_some b0 b1 q).2 = true
  · obtain ⟨s1, s2⟩ := hs
    obtain ⟨hx, ax⟩ := sa2 s1
    obtain ⟨hy, bx⟩ := sb2 s2
    simp only [works_ok, works_s, sa, sb, s1, s2]
    clear sa sb sa2 sb2
    generalize law_some a0 a1 p = X at *
    generalize law_some b0 b1 q = Y at *
    obtain ⟨x, _⟩ := X
    obtain ⟨y, _⟩ := Y
    simp only at *
    clear s1 s2
    obtain ⟨w0, w0'⟩ := wraps0 hx hy
    obtain ⟨w1, w1'⟩ := wraps1 hx hy
    obtain ⟨w2, w2'⟩ := wraps2 hx hy
    have nU := fun e => negU (m := a0) (r := a1) e h1 h2
    have aU := fun e => addU (a0 := a0) (a1 := a1) (b0 := b0) (b1 := b1) e h1 h2 h3 h4
    have sU := fun e => subU (a0 := a0) (a1 := a1) (b0 := b0) (b1 := b1) e h1 h2 h3 h4
    have mU := fun e => mulU (a0 := a0) (a1 := a1) (b0 := b0) (b1 := b1) e h1 h2 h3 h4
    have nf := (neg_has (e := false) h1 h2 hx ax (fun h => by simp at h)).2.2
    have af := (add_has (e := false) h1 h2 h3 h4 ax bx (fun h => by simp at h)).2.2
    have sf := (sub_has (e := false) h1 h2 h3 h4 ax bx (fun h => by simp at h)).2.2
    have mf := (mul_has (e := false) h1 h2 h3 h4 ax bx (fun h => by simp at h)).2.2
    have nt : (bif x != -9223372036854775808 then !hasS (negS a0 a1 true).1 (negS a0 a1 true).2 (IntKind.i64.wrap (0 - x)) else false) = false := by
      by_cases c : x = -9223372036854775808
      · simp [c]
      · rw [(neg_has (e := true) h1 h2 hx ax (fun _ => c)).2.2]; simp
    have at' : (bif !law_wraps 0 x y then !hasS (addS a0 a1 b0 b1 true).1 (addS a0 a1 b0 b1 true).2 (IntKind.i64.wrap (x + y)) else false) = false := by
      cases c : law_wraps 0 x y
      · rw [(add_has (e := true) h1 h2 h3 h4 ax bx (fun _ => w0' c)).2.2]; rfl
      · rfl
    have st' : (bif !law_wraps 1 x y then !hasS (subS a0 a1 b0 b1 true).1 (subS a0 a1 b0 b1 true).2 (IntKind.i64.wrap (x - y)) else false) = false := by
      cases c : law_wraps 1 x y
      · rw [(sub_has (e := true) h1 h2 h3 h4 ax bx (fun _ => w1' c)).2.2]; rfl
      · rfl
    have mt' : (bif !law_wraps 2 x y then !hasS (mulS a0 a1 b0 b1 true).1 (mulS a0 a1 b0 b1 true).2 (IntKind.i64.wrap (x * y)) else false) = false := by
      cases c : law_wraps 2 x y
      · rw [(mul_has (e := true) h1 h2 h3 h4 ax bx (fun _ => w2' c)).2.2]; rfl
      · rfl
    have ca : addS 0 (IntKind.u64.wrap x) 0 (IntKind.u64.wrap y) false = (0, IntKind.u64.wrap (IntKind.i64.wrap (x + y))) := by unfold addS; rw [if_pos ⟨rfl, rfl⟩, con hx, con hy]
    have cm : mulS 0 (IntKind.u64.wrap x) 0 (IntKind.u64.wrap y) false = (0, IntKind.u64.wrap (IntKind.i64.wrap (x * y))) := by unfold mulS; rw [if_pos ⟨rfl, rfl⟩, con hx, con hy]
    have cn : negS 0 (IntKind.u64.wrap x) false = (0, IntKind.u64.wrap (IntKind.i64.wrap (0 - x))) := by unfold negS; rw [if_pos rfl, con hx, Int.zero_sub]
    have ux := u64u x
    have uy := u64u y
    simp only [inside_ok, inside_v h1 h2 hx, inside_v h3 h4 hy, ax, bx, w0, w1, w2, neg_ok _ h1 h2, neg_s _ h1 h2, add_ok _ h1 h2 h3 h4, add_s _ h1 h2 h3 h4, sub_ok _ h1 h2 h3 h4, sub_s _ h1 h2 h3 h4, mul_ok _ h1 h2 h3 h4, mul_s _ h1 h2 h3 h4, div_ok h1 h2 h3 h4, div_s h1 h2 h3 h4, rem_ok h1 h2 h3 h4, rem_s h1 h2 h3 h4,
      const_s, add_s _ z_U ux z_U uy, mul_s _ z_U ux z_U uy, neg_s _ z_U ux, div_ok z_U ux z_U uy, div_s z_U ux z_U uy, rem_ok z_U ux z_U uy, rem_s z_U ux z_U uy, ca, cm, cn,
      inside_v (nU true).1 (nU true).2 (i64u _), inside_v (nU false).1 (nU false).2 (i64u _), inside_v (aU true).1 (aU true).2 (i64u _), inside_v (aU false).1 (aU false).2 (i64u _), inside_v (sU true).1 (sU true).2 (i64u _), inside_v (sU false).1 (sU false).2 (i64u _), inside_v (mU true).1 (mU true).2 (i64u _), inside_v (mU false).1 (mU false).2 (i64u _),
      nf, af, sf, mf, Bool.true_or, Bool.and_self, Bool.not_true, Bool.not_false, cond_true, cond_false, nt, at', st', mt', beq_self_eq_true, Bool.and_true]
    by_cases c : y = 0
    · subst c
      have cd : divS 0 (IntKind.u64.wrap x) 0 (IntKind.u64.wrap 0) = (1, 0) := by unfold divS; rw [if_pos (.inr rfl)]
      have cr : remS 0 (IntKind.u64.wrap x) 0 (IntKind.u64.wrap 0) = (1, 0) := by unfold remS; rw [if_pos ⟨rfl, rfl⟩]
      simp only [beq_self_eq_true, cond_true, cd, cr, Bool.and_self]
    · obtain ⟨d1, d2, d3⟩ := div_has h1 h2 h3 h4 hx hy ax bx c
      obtain ⟨r1, r2, r3⟩ := rem_has h1 h2 h3 h4 hx hy ax bx c
      have c0 : (y == 0) = false := by simpa using c
      have eq : (bif y != -1 then IntKind.i64.wrap (x.tdiv y) else IntKind.i64.wrap (0 - x)) = qw x y := by
        unfold qw
        by_cases g : y = -1
        · rw [if_pos g, g, Int.zero_sub]; rfl
        · have : (y != -1) = true := by simpa using g
          rw [if_neg g, this, cond_true]
      have er : (bif y != -1 then x.tmod y else 0) = rw' x y := by
        unfold rw'
        by_cases g : y = -1
        · rw [if_pos g, g]; rfl
        · have : (y != -1) = true := by simpa using g
          rw [if_neg g, this, cond_true]
      have cd : divS 0 (IntKind.u64.wrap x) 0 (IntKind.u64.wrap y) = (0, IntKind.u64.wrap (qw x y)) := by
        unfold divS
        rw [con hx, con hy, if_neg (by omega), if_pos rfl]
      have cr : remS 0 (IntKind.u64.wrap x) 0 (IntKind.u64.wrap y) = (0, IntKind.u64.wrap (rw' x y)) := by
        unfold remS rw'
        rw [con hx, con hy, if_neg (fun h => un hy c h.2), if_pos ⟨rfl, rfl⟩]
      simp only [c0, dF c, cond_false, Bool.not_false, Bool.and_self, Bool.true_or, cond_true, eq, er, cd, cr, inside_v d1 d2 (qw_I x y), inside_v r1 r2 (rw_I hx), d3, r3, beq_self_eq_true]
  · simp only [works_ok, works_s, sa, sb, Bool.not_true, cond_true, cond_false]
    have : (bif !(law_some a0 a1 p).2 then true else !(law_some b0 b1 q).2) = true := by
      cases g1 : (law_some a0 a1 p).2
      · rfl
      · cases g2 : (law_some b0 b1 q).2
        · rfl
        · exact absurd ⟨g1, g2⟩ hs
    simp only [this, cond_true]
theorem congHolds.walk (a b c d p q : Int) (W : World) (h1 : (Lit.int .u64 a).wf = true) (h2 : (Lit.int .u64 b).wf = true) (h3 : (Lit.int .u64 c).wf = true) (h4 : (Lit.int .u64 d).wf = true) (h5 : (Lit.int .i64 p).wf = true) (h6 : (Lit.int .i64 q).wf = true) (hG : GOK G W) :
    Calls Tryd.prog 7 #[.agg #[.int .u64 a, .int .u64 b, .int .u64 c, .int .u64 d, .int .i64 p, .int .i64 q]] W fun x w' => x = .returned (.bool true) ∧ Below W.heap.size W w' := by
  refine runF_calls' C.mixed C.names law_CongOps.t (H := { merge := true, glue := true }) (d := 60) (fun c _ => LoopsOK_nil c) Tryd.func7 hG (gok_lt C hG) (vs := [.agg #[.int .u64 a, .int .u64 b, .int .u64 c, .int .u64 d, .int .i64 p, .int .i64 q]]) ?_
  rw [law_CongHolds.r, congHolds.v _ _ (u64_wf h1) (u64_wf h2) (u64_wf h3) (u64_wf h4) (i64_wf h5) (i64_wf h6)]
end Go.Proofs.YtoggbmfjkcbilaaDoor.V
