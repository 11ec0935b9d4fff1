/-
  The walks of Fold and Unfold, of the program and of the document.
-/
import Derived.Test.YtgfchhbekbmlcaaDoorBase
import Derived.Test.YtgfchhbekbmlcaaDoorZigNum
namespace Go.Proofs.YtgfchhbekbmlcaaDoor
open Go Go.RowKit

end Go.Proofs.YtgfchhbekbmlcaaDoor
