import Derived.Test.YtdfbkddelhbgmaaGreatDoorK4S2
namespace Pg
open Go
end Pg
