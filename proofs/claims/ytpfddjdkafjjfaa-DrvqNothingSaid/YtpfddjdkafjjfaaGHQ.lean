/- What drvq's id, Held and maps.Clone come to (by hand), behind the printed functions. -/
import Derived.Test.YtpfddjdkafjjfaaGS1
import Derived.Test.YtpfddjdkafjjfaaGH15c
