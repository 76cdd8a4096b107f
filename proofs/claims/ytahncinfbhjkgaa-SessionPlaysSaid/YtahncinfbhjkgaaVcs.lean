/- Own work: all of the vc texts. -/
import Derived.Test.YtahncinfbhjkgaaVa
import Derived.Test.YtahncinfbhjkgaaVb
import Derived.Test.YtahncinfbhjkgaaVc
import Derived.Test.YtahncinfbhjkgaaVd
