/- What fdb's Tick, Rows and maps.Clone come to (by hand), behind the printed functions. -/
import Derived.Test.YthdmjbndfnolmaaMS0
import Derived.Test.YthdmjbndfnolmaaMH18r
import Derived.Test.YthdmjbndfnolmaaMH18k
