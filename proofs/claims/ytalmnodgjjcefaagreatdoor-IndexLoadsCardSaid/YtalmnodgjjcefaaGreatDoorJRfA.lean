/- Several texts in one: RfPlain RfTake RfNext RfPack RfPack2. -/
import Derived.Test.YtalmnodgjjcefaaGreatDoorJLow
import Derived.Test.YtalmnodgjjcefaaGreatDoorJFrm
import Derived.Test.YtalmnodgjjcefaaGreatDoorJItm
import Derived.Test.YtalmnodgjjcefaaGreatDoorJIpA
namespace Go.Proofs.YtalmnodgjjcefaaGreatDoor

end Go.Proofs.YtalmnodgjjcefaaGreatDoor
