/- Own work: all of the vc texts. -/
import Derived.Test.YtmanockofcopjaaDoorWa
