import Derived.Test.YtpebidcmkjjpnaaGreatTreeS
import Derived.Test.YtpebidcmkjjpnaaGreatCount
namespace Pg
open Go
set_option linter.unusedSimpArgs false
set_option linter.unusedVariables false
set_option maxHeartbeats 1000000
set_option maxRecDepth 4000

end Pg
