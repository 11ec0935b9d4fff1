/-
  The walks of Fold and Unfold, of the program and of the document.
-/
import Derived.Test.YtfhgjangeicbjaaDoorBase
import Derived.Test.YtfhgjangeicbjaaDoorZigNum
namespace Go.Proofs.YtfhgjangeicbjaaDoor
open Go Go.RowKit

end Go.Proofs.YtfhgjangeicbjaaDoor
