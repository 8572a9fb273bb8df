/- InvTurned: what stands behind its map, and the state there. Conditions: none. -/
import Derived.Test.YtonpbbhlmapbdaaGreatDoorG2
set_option linter.unusedVariables false
namespace Go.Proofs.YtonpbbhlmapbdaaGreatDoor.V
open Go Go.Wk
noncomputable def restT : Code := match fbody Tryz.f12 with
  | .seq _ (.seq _ c) => c
  | _ => .skip
def kT (p0 : Bool) (p1 p2 p3 p4 : Int) (p5 : Bool) (p6 p7 p8 p9 : Int) (p10 : Bool) (p11 p12 p13 p14 v w : Int) : List Value :=
  [.bool p0, .int .i64 p1, .int .i64 p2, .int .u64 p3, .int .u64 p4, .bool p5, .int .i64 p6, .int .i64 p7, .int .u64 p8, .int .u64 p9, .bool p10, .int .i64 p11, .int .i64 p12, .int .u64 p13, .int .u64 p14, .int .i64 v, .int .i64 w]
def tmT (op bk : Int) : List SV := [.val (.int .i64 op), .unk, .unk, .ptr 0 0, .val (.bool false), .val (.int .i64 bk)] ++ List.replicate 98 .unk
def stT (op bk : Int) (ks : List Value) : St := { tmps := tmT op bk, blks := [some ⟨ks.map .val, 65⟩], saved := [] }
end Go.Proofs.YtonpbbhlmapbdaaGreatDoor.V
