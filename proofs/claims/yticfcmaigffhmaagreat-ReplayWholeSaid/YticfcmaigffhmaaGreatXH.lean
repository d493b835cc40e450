/- Joined: RT1 to RT1. -/
import Derived.Test.YticfcmaigffhmaaGreatXG
set_option linter.unusedVariables false
set_option linter.unusedSimpArgs false
namespace Go.Proofs.YticfcmaigffhmaaGreat.G
open Go
set_option linter.unusedSimpArgs false
set_option linter.unusedVariables false
set_option maxRecDepth 20000
set_option maxHeartbeats 2000000
theorem outC_one (r : Rs) {s : IV} (h : ione s = true) : (outC r s).all ione = true := by
  simp only [outC, List.all_cons, List.all_nil, h]; rfl
theorem out_len (r s) : (outC r s).length = 3 := rfl
theorem out_take (r s) : (outC r s).take 3 = outC r s := rfl
theorem out_0 (r s) : (outC r s).take 1 = [.int .u64 (r.touched.toNat : Int)] := rfl
theorem out_00 (r s) : ((outC r s).drop 0).take 1 = [.int .u64 (r.touched.toNat : Int)] := rfl
theorem out_1 (r s) : ((outC r s).drop 1).take 1 = [s] := rfl
theorem out_2 (r s) : ((outC r s).drop 2).take 1 = [nI r.err] := rfl
theorem out_z (r s) : isplice [IV.sc (Value.int IntKind.u64 0), IV.sc (Value.slice none 0 0), IV.sc (Value.int IntKind.i64 0)] 0 (outC r s) = outC r s := rfl
attribute [go_sem] out_len out_take out_0 out_00 out_1 out_2
attribute [go_sem ↓] out_z
end Go.Proofs.YticfcmaigffhmaaGreat.G
