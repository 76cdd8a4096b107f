/- Own work: all of the vc texts. -/
import Derived.Test.YtahncinfbhjkgaaVa
import Derived.Test.YtahncinfbhjkgaaVb
import Derived.Test.YtahncinfbhjkgaaVc
import Derived.Test.YtahncinfbhjkgaaVd
import Derived.Test.YtahncinfbhjkgaaVe
import Derived.Test.YtahncinfbhjkgaaVf
import Derived.Test.YtahncinfbhjkgaaVg
import Derived.Test.YtahncinfbhjkgaaVh
