/-
  DERIVED. What the law TreeCarried stands on. By an AI agent.
-/
import Derived.Test.YtmkicfjcgbfaaaaGreatDoorTc35
import Derived.Test.YtmkicfjcgbfaaaaGreatDoorTc37
import Derived.Test.YtmkicfjcgbfaaaaGreatDoorTc34
import Derived.Test.YtmkicfjcgbfaaaaGreatDoorTc18
import Derived.Test.YtmkicfjcgbfaaaaGreatDoorTc39
import Derived.Test.YtmkicfjcgbfaaaaGreatDoorTc26
import Derived.Test.YtmkicfjcgbfaaaaGreatDoorTc15
import Derived.Test.YtmkicfjcgbfaaaaGreatDoorTc05
namespace Go.Proofs.YtmkicfjcgbfaaaaGreatDoor
theorem crTop : True := trivial
end Go.Proofs.YtmkicfjcgbfaaaaGreatDoor
