/- Several texts in one: RfPlain RfTake RfNext RfPack RfPack2. -/
import Derived.Test.YtalmnodgjjcefaaGreatDoorZLow
import Derived.Test.YtalmnodgjjcefaaGreatDoorZFrm
import Derived.Test.YtalmnodgjjcefaaGreatDoorZItm
import Derived.Test.YtalmnodgjjcefaaGreatDoorZIpA
namespace Go.Proofs.YtalmnodgjjcefaaGreatDoor

end Go.Proofs.YtalmnodgjjcefaaGreatDoor
