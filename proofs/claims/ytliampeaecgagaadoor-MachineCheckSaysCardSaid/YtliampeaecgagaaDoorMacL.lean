import Derived.Test.YtliampeaecgagaaDoorMacJ
import Derived.Test.YtliampeaecgagaaDoorMacK
namespace Go.Proofs.YtliampeaecgagaaDoor
open Go.RowKit
end Go.Proofs.YtliampeaecgagaaDoor
