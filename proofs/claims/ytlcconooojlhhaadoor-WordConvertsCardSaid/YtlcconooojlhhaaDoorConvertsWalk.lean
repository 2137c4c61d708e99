/- The Go text of flyleaflaw02.WordConverts returns true and writes nothing that was there. -/
import Derived.Test.YtlcconooojlhhaaDoorRConv
import Derived.Test.YtlcconooojlhhaaDoorAwake02
namespace Go.Proofs.YtlcconooojlhhaaDoor
open Go.RowKit
set_option linter.unusedVariables false
set_option maxRecDepth 100000 in
set_option maxHeartbeats 4000000 in
theorem converts_walk (w : World) (hw : Wd w) (f : Int) (hf : (Lit.int IntKind.i64 f).wf = true) (t : Int) (ht : (Lit.int IntKind.i64 t).wf = true) (x : Int) (h0 : 0 ≤ x) (h1 : x < 18446744073709551616) :
    Calls Tryd.prog 3 #[.int .i64 f, .int .i64 t, .int .u64 x] w fun e w' => e = .returned (.bool true) ∧ Below w.heap.size w w' := by
  have haw := awake02 w hw
  have hc := convert_any w hw f t x h0 h1
  have hr := rconvert_any w f t x h0 h1
  generalize convOf f t x = c at *
  clear hw
  go_enter Tryd.func3, Tryd.ntmps3
  go_wp2_with fail
  refine haw.mono ?_
  rintro e w1 ⟨rfl, rfl⟩
  go_wp2_with fail
  refine hc.mono ?_
  rintro e w1 ⟨rfl, rfl⟩
  go_wp2_with fail
  refine hr.mono ?_
  rintro e w2 ⟨rfl, q2⟩
  go_wp2_with fail
  go_ret
  exact ⟨rfl, q2⟩
end Go.Proofs.YtlcconooojlhhaaDoor
