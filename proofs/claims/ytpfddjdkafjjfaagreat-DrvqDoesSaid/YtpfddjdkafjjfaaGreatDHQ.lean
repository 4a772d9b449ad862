/- What drvq's id, Held and maps.Clone come to (by hand), behind the printed functions. -/
import Derived.Test.YtpfddjdkafjjfaaGreatDS1
import Derived.Test.YtpfddjdkafjjfaaGreatDH15c
