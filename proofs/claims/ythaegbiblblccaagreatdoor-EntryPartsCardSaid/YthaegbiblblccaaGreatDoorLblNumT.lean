/- Another name for a text of this seat. -/
import Derived.Test.YthaegbiblblccaaGreatDoorSmpNumB
