/- ref02's ReadLabel, Label, Flag by rules. -/
import Derived.Test.YtapbbifcipemfaaKF3
import Derived.Test.YtapbbifcipemfaaV15
set_option maxHeartbeats 16000000
namespace Go.Proofs.Ytapbbifcipemfaa
open Go Go.RowKit

def RS.label (r : RS) : List UInt8 × RS := ((r.take 32).1 ++ List.replicate (32 - (r.take 32).1.length) 0, (r.take 32).2)
end Go.Proofs.Ytapbbifcipemfaa
