/- The walks of gimletref01.size, goes, Front. -/
import Derived.Test.YtbbfifaojepjiaaDoorRefLaw
namespace Go.Proofs.YtbbfifaojepjiaaDoor
open Go.RowKit Gim
end Go.Proofs.YtbbfifaojepjiaaDoor
