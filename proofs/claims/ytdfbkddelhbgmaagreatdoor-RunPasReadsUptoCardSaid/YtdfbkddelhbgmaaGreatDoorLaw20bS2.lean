import Derived.Test.YtdfbkddelhbgmaaGreatDoorTreeSS2
import Derived.Test.YtdfbkddelhbgmaaGreatDoorLaw20S2
namespace Pg
open Go Tc Rf
set_option linter.all false
set_option maxHeartbeats 4000000
set_option maxRecDepth 4000
def part (n : Int) : Int := if (if 10000 < n then 10000 else n) > 0 then (if 10000 < n then 10000 else n) else 0
