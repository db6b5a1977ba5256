/-
  The library's variable MaxLen holds some number in each world that has the program's shape.
-/
import Derived.Test.YtljinmfkogmmlaaDoorLawKit
import Derived.Test.YtljinmfkogmmlaaDoorMaxL
import Derived.HandedShaped
import Derived.Shelf.Vars
namespace Go.Proofs.YtljinmfkogmmlaaDoor
open Go.ChangeShapes Go.WideShapes Go.ChangeAt Go.RowKit
set_option maxRecDepth 100000
theorem maxL_of {w : World} (h : w.ShapedOpen Tryd.prog) : Pat.MaxL w :=
  cell_of_shapedOpen_int (t := 3) (zero := #[.int .i64 0]) h (of_decide_eq_true (by kernel_rfl)) (by kernel_rfl) rfl (by kernel_rfl) (by kernel_rfl) Tryd.underlying3
end Go.Proofs.YtljinmfkogmmlaaDoor
