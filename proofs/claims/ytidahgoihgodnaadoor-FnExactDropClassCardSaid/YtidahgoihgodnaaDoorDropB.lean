/- DropClass: both sides. -/
import Derived.Test.YtidahgoihgodnaaDoorDropI
import Derived.Test.YtidahgoihgodnaaDoorDropS
