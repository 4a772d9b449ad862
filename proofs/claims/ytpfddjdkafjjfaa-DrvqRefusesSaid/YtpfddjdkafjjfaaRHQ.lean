/- What drvq's id, Held and maps.Clone come to (by hand), behind the printed functions. -/
import Derived.Test.YtpfddjdkafjjfaaRS1
import Derived.Test.YtpfddjdkafjjfaaRH15c
