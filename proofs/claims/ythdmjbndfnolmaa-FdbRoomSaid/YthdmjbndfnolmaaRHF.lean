/- What fdb's Tick, Rows and maps.Clone come to (by hand), behind the printed functions. -/
import Derived.Test.YthdmjbndfnolmaaRS0
import Derived.Test.YthdmjbndfnolmaaRH18r
import Derived.Test.YthdmjbndfnolmaaRH18k
