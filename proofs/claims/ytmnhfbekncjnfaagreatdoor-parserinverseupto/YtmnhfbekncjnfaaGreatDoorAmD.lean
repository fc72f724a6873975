/- A part of the proof of ParserInverse. -/
import Derived.Test.YtmnhfbekncjnfaaGreatDoorAmC
import Derived.Sort.Grow
import Derived.Sort.EncStr
import Derived.Laws.AppendOwn
namespace Go.Am
section
variable {P:Program}
end
def L1h (o:Oper):Option Nat×Op×Option (Nat×Bool):=(o.dst,o.op,o.guard)
end Go.Am

