/- What fdb's Tick, Rows and maps.Clone come to (by hand), behind the printed functions. -/
import Derived.Test.YthdmjbndfnolmaaES0
import Derived.Test.YthdmjbndfnolmaaEH18r
import Derived.Test.YthdmjbndfnolmaaEH18k
