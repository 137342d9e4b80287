import Derived.Test.YtdfbkddelhbgmaaGreatDoorTreeSS2
import Derived.Test.YtdfbkddelhbgmaaGreatDoorCountS2
namespace Pg
open Go
set_option linter.all false
set_option maxHeartbeats 1000000
set_option maxRecDepth 4000
end Pg
