/- What fdb's Tick, Rows and maps.Clone come to (by hand), behind the printed functions. -/
import Derived.Test.YthdmjbndfnolmaaDS0
import Derived.Test.YthdmjbndfnolmaaDH18r
import Derived.Test.YthdmjbndfnolmaaDH18k
