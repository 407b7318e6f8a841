/- What the reference's Read computes: the same record, rest and code as record.Read. No condition. -/
import Derived.Test.YtbhdoechhfgpeaaRRRDoorRead
import Derived.Test.YtbhdoechhfgpeaaRRRDoorStore
import Derived.Test.YtbhdoechhfgpeaaRRRDoorKind
import Derived.BigQuiet
namespace Go.Proofs.YtbhdoechhfgpeaaRRRDoor
open Go.RowKit

end Go.Proofs.YtbhdoechhfgpeaaRRRDoor
