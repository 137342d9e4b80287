import Derived.Test.YtdfbkddelhbgmaaGreatDoorK4S1
namespace Pg
open Go
end Pg
