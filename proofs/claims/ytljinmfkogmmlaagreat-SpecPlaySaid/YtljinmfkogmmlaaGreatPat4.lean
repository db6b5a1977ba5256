/-
  The walks of layer 16 (pattern): the reference's classes. Conditions: texts of at most 2^40 bytes.
-/
import Derived.Test.YtljinmfkogmmlaaGreatPatA
import Derived.Test.YtljinmfkogmmlaaGreatShelfB
namespace Go.Proofs.YtljinmfkogmmlaaGreat.Pat
open Go.ChangeShapes Go.WideShapes Go.Deep Go.RowKit
set_option maxRecDepth 100000
theorem e9 (b : UInt8) : btw b 9 13 = (decide (9 ≤ (b.toNat : Int)) && decide ((b.toNat : Int) ≤ 13)) := rfl
end Go.Proofs.YtljinmfkogmmlaaGreat.Pat
