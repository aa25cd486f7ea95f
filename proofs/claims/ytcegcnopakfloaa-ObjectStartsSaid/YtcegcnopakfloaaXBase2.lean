/- The base of the second half. -/
import Derived.Test.YtcegcnopakfloaaXBase
import Derived.Test.YtcegcnopakfloaaXM20
