/- NodeNil: the row's closed facts. -/
import Derived.Test.YtbnabgaepphlnaaGreatRows
import Derived.JoinedOf
set_option maxRecDepth 100000
namespace Go.Proofs.YtbnabgaepphlnaaGreat.NodeNil
theorem p2 : joinedFacts Tryz.pinned.checked.prog 6 Tryz.f6 Rows.nodeNilSpec Rows.nodeNilRow = true := by kernel_rfl
end Go.Proofs.YtbnabgaepphlnaaGreat.NodeNil
