/- What drvq's id, Held and maps.Clone come to (by hand), behind the printed functions. -/
import Derived.Test.YtpfddjdkafjjfaaFS1
import Derived.Test.YtpfddjdkafjjfaaFH15c
