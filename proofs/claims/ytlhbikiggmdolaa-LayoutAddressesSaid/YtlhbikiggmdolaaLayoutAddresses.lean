/- The walk of LayoutAddresses. -/
import Derived.Test.YtlhbikiggmdolaaLayoutAddrFar
import Derived.Test.YtlhbikiggmdolaaLayoutAddrNear
namespace Go.Proofs.Ytlhbikiggmdolaa
open Go.RowKit

theorem layoutAddresses_any (a0 : Int) (_w0 : (Lit.int .i64 a0).wf = true) (a1 : Int) (_w1 : (Lit.int .i64 a1).wf = true) (a2 : Int) (_w2 : (Lit.int .i64 a2).wf = true) (a3 : Int) (_w3 : (Lit.int .i64 a3).wf = true) (a4 : Int) (_w4 : (Lit.int .i64 a4).wf = true) (a5 : Bool) (w : World) :
    Calls Try.prog 5 #[.int .i64 a0, .int .i64 a1, .int .i64 a2, .int .i64 a3, .int .i64 a4, .bool a5] w fun e w' => e = .returned (.bool true) ∧ Upd Non w w' := by
  cases a5
  · exact layoutAddresses_far a0 a1 a2 a3 a4 w
  · exact layoutAddresses_near a0 a1 a2 a3 a4 w
end Go.Proofs.Ytlhbikiggmdolaa
