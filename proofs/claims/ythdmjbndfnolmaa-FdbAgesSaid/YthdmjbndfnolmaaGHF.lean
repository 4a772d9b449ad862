/- What fdb's Tick, Rows and maps.Clone come to (by hand), behind the printed functions. -/
import Derived.Test.YthdmjbndfnolmaaGS0
import Derived.Test.YthdmjbndfnolmaaGH18r
import Derived.Test.YthdmjbndfnolmaaGH18k
