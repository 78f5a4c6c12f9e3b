/- RaiseRates: both sides. -/
import Derived.Test.YtidahgoihgodnaaDoorRaiI
import Derived.Test.YtidahgoihgodnaaDoorRaiSp
namespace Go.Proofs.YtidahgoihgodnaaDoor
set_option maxRecDepth 20000
end Go.Proofs.YtidahgoihgodnaaDoor
