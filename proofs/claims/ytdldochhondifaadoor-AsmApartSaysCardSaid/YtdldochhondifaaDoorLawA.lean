import Derived.Test.YtdldochhondifaaDoorMacH
namespace Go.Proofs.YtdldochhondifaaDoor
open Go.RowKit
end Go.Proofs.YtdldochhondifaaDoor
