import Derived.Test.YtdfbkddelhbgmaaGreatDoorCheckSpecJS2
import Derived.Test.YtdfbkddelhbgmaaGreatDoorFitS2
namespace Pg
open Go
set_option linter.all false
def lP (p : Param) : Nat := p.name.size + p.t.name.size
end Pg
