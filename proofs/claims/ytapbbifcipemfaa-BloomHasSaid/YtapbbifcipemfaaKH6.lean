/- ref08.Make by rules. -/
import Derived.Test.YtapbbifcipemfaaKH5
set_option maxHeartbeats 4000000
namespace Go.Proofs.Ytapbbifcipemfaa
open Go Go.RowKit
end Go.Proofs.Ytapbbifcipemfaa
