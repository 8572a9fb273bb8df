/- The seat's program, its package-level variables, and what the evaluation asks of a program. Conditions: none. -/
import Derived.Test.YtmadebejnhinoaaDoorX4
import Derived.Test.YtmadebejnhinoaaDoorProg
import Derived.KernelRfl
import Derived.Laws.Externs
set_option linter.unusedSimpArgs false
namespace Go.Proofs.YtmadebejnhinoaaDoor.V
open Go Go.Wk
noncomputable abbrev P : Program := Tryd.prog
def G : Glob := [(0, [.int .u64 0, .int .u64 0]), (1, [.int .i64 1, .int .i64 0])]
theorem C : Cx P G where
  mixed := by kernel_rfl
  names := noCount_of (by kernel_rfl)
  full := by intro g cs h; simp only [G, List.mem_cons, Prod.mk.injEq, List.mem_nil_iff, or_false] at h; rcases h with ⟨_, rfl⟩ | ⟨_, rfl⟩ <;> simp
/-- the library's table of lengths -/
def len8tab : ByteArray := { data := (([0, 1, 2, 2, 3, 3, 3, 3, 4, 4, 4, 4, 4, 4, 4, 4, 5, 5, 5, 5, 5, 5, 5, 5, 5, 5, 5, 5, 5, 5, 5, 5, 6, 6, 6, 6, 6, 6, 6, 6, 6, 6, 6, 6, 6, 6, 6, 6, 6, 6, 6, 6, 6, 6, 6, 6, 6, 6, 6, 6, 6, 6, 6, 6].append [7, 7, 7, 7, 7, 7, 7, 7, 7, 7, 7, 7, 7, 7, 7, 7, 7, 7, 7, 7, 7, 7, 7, 7, 7, 7, 7, 7, 7, 7, 7, 7, 7, 7, 7, 7, 7, 7, 7, 7, 7, 7, 7, 7, 7, 7, 7, 7, 7, 7, 7, 7, 7, 7, 7, 7, 7, 7, 7, 7, 7, 7, 7, 7]).append ([8, 8, 8, 8, 8, 8, 8, 8, 8, 8, 8, 8, 8, 8, 8, 8, 8, 8, 8, 8, 8, 8, 8, 8, 8, 8, 8, 8, 8, 8, 8, 8, 8, 8, 8, 8, 8, 8, 8, 8, 8, 8, 8, 8, 8, 8, 8, 8, 8, 8, 8, 8, 8, 8, 8, 8, 8, 8, 8, 8, 8, 8, 8, 8].append [8, 8, 8, 8, 8, 8, 8, 8, 8, 8, 8, 8, 8, 8, 8, 8, 8, 8, 8, 8, 8, 8, 8, 8, 8, 8, 8, 8, 8, 8, 8, 8, 8, 8, 8, 8, 8, 8, 8, 8, 8, 8, 8, 8, 8, 8, 8, 8, 8, 8, 8, 8, 8, 8, 8, 8, 8, 8, 8, 8, 8, 8, 8, 8])).toArray }
theorem len8size : len8tab.size = 256 := by decide +kernel
theorem u8i (x : Int) : (decide (0 ≤ IntKind.u8.wrap x) && decide (IntKind.u8.wrap x < (len8tab.size : Int))) = true := by
  have e : IntKind.u8.wrap x = x % 256 := by simp [IntKind.wrap, IntKind.signed, IntKind.bits]
  rw [e, len8size]; simp; omega
/-- the library's table of last bits -/
def deBruijn : List Int := [0, 1, 56, 2, 57, 49, 28, 3, 61, 58, 42, 50, 38, 29, 17, 4, 62, 47, 59, 36, 45, 43, 51, 22, 53, 39, 33, 30, 24, 18, 12, 5, 63, 55, 48, 27, 60, 41, 37, 16, 46, 35, 44, 21, 52, 32, 23, 11, 54, 26, 40, 15, 34, 20, 31, 10, 25, 14, 19, 9, 13, 8, 7, 6]
theorem tz0 (x : Int) : (IntKind.u64.wrap x).fdiv (2 ^ min (Int.toNat 58) IntKind.u64.bits) = (IntKind.u64.wrap x) / 288230376151711744 := by
  rw [Int.fdiv_eq_ediv_of_nonneg _ (by decide)]; rfl
theorem tzi (x : Int) : (decide (0 ≤ (IntKind.u64.wrap x).fdiv (2 ^ min (Int.toNat 58) IntKind.u64.bits)) && decide ((IntKind.u64.wrap x).fdiv (2 ^ min (Int.toNat 58) IntKind.u64.bits) < ((64 : Nat) : Int))) = true := by
  have h1 := wu_lo x
  have h2 := wu_hi x
  rw [tz0]; simp; omega
theorem tzi' (x : Int) : (decide (0 ≤ (IntKind.u64.wrap x).fdiv (2 ^ min (Int.toNat 58) IntKind.u64.bits)) && decide ((IntKind.u64.wrap x).fdiv (2 ^ min (Int.toNat 58) IntKind.u64.bits) < 64)) = true := tzi x
theorem tzj (x : Int) : Nat.blt (0 + ((IntKind.u64.wrap x).fdiv (2 ^ min (Int.toNat 58) IntKind.u64.bits)).toNat * 1) deBruijn.length = true := by
  have h1 := wu_lo x
  have h2 := wu_hi x
  rw [tz0, Nat.blt_eq, show deBruijn.length = 64 from rfl]; omega
/-- the model's entries for the sums and differences with carry -/
def addEntry : Array Value → Sem Value := fun args => do
  let (x, y, c) ← Extern.MathBitsCarry.three "Add64" args
  pure (Extern.MathBitsCarry.pair ((x + y + c) % Extern.MathBitsCarry.m64) ((x + y + c) / Extern.MathBitsCarry.m64))
def subEntry : Array Value → Sem Value := fun args => do
  let (x, y, b) ← Extern.MathBitsCarry.three "Sub64" args
  pure (Extern.MathBitsCarry.pair ((x + Extern.MathBitsCarry.m64 - y - b) % Extern.MathBitsCarry.m64) (if x < y + b then 1 else 0))
theorem three_run (n : String) (a b c : Int) (hc : c.toNat ≤ 1) (w : World) : (Extern.MathBitsCarry.three n #[.int .u64 a, .int .u64 b, .int .u64 c]).run P w = .ok (a.toNat, b.toNat, c.toNat) w := by
  show Sem.run P (do
    if c.toNat > 1 then unsupported (.noEntry ("extern/math/bits." ++ n ++ ": a carry that is neither 0 nor 1"))
    pure (a.toNat, b.toNat, c.toNat) : Sem (Nat × Nat × Nat)) w = _
  rw [if_neg (by omega)]
  rfl
end Go.Proofs.YtmadebejnhinoaaDoor.V
