/- What the reference's Read computes: the same record, rest and code as record.Read. No condition. -/
import Derived.Test.YtniflggmfegnfaaDoorRead
import Derived.Test.YtniflggmfegnfaaDoorStore
import Derived.Test.YtniflggmfegnfaaDoorKind
import Derived.BigQuiet
namespace Go.Proofs.YtniflggmfegnfaaDoor
open Go.RowKit

end Go.Proofs.YtniflggmfegnfaaDoor
