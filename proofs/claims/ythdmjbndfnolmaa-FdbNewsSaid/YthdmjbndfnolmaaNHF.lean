/- What fdb's Tick, Rows and maps.Clone come to (by hand), behind the printed functions. -/
import Derived.Test.YthdmjbndfnolmaaNS0
import Derived.Test.YthdmjbndfnolmaaNH18r
import Derived.Test.YthdmjbndfnolmaaNH18k
