/- What the program's functions of chapter 1 come to, in the plain law's words. Conditions: enough rounds; texts no longer than any machine's. -/
import Derived.Test.YthaegbiblblccaaGreatDoorNumLib
import Derived.Test.YthaegbiblblccaaGreatDoorSmpNumR
import Derived.Test.YthaegbiblblccaaGreatDoorXEntP1
namespace Go.Proofs.YthaegbiblblccaaGreatDoor.Num
open Go.RowKit Go.Proofs.YthaegbiblblccaaGreatDoorW.PrintWords Go.Proofs.YthaegbiblblccaaGreatDoorW.PrintMore Go.Proofs.YthaegbiblblccaaGreatDoor.XEnt

end Go.Proofs.YthaegbiblblccaaGreatDoor.Num
