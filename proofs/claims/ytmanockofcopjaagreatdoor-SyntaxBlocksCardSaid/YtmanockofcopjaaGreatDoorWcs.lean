
/- Own work: all of the vc texts. -/
import Derived.Test.YtmanockofcopjaaGreatDoorWa
import Derived.Test.YtmanockofcopjaaGreatDoorWb
