/-
  Walks of layer 30: diagnose.Check.
-/
import Derived.Test.YtgfmnolghbiedaaDoorK17
import Derived.Test.YtgfmnolghbiedaaDoorN5
namespace Go.Proofs.YtgfmnolghbiedaaDoor
open Go.RowKit

end Go.Proofs.YtgfmnolghbiedaaDoor
