/-
  Package words: Bytes.
-/
import Derived.Test.YtahaaeenbahknaaRRRRWo1
namespace Go.Proofs.YtahaaeenbahknaaRRRR
open Go.RowKit

end Go.Proofs.YtahaaeenbahknaaRRRR
