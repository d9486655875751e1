/- The walk of Position. -/
import Derived.Test.YtaaegelefknkeabMkD
namespace Go.Proofs.Ytaaegelefknkeab

open Go.RowKit Go.Shelf

end Go.Proofs.Ytaaegelefknkeab
