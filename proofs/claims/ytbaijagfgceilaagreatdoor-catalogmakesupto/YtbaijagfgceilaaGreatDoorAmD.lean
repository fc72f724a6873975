/- A part of the proof of CatalogMakes. -/
import Derived.Test.YtbaijagfgceilaaGreatDoorAmC
import Derived.Sort.Grow
import Derived.Sort.EncStr
import Derived.Laws.AppendOwn
namespace Go.Am
section
variable {P:Program}
end
def G1k (o:Oper):Option Nat×Op×Option (Nat×Bool):=(o.dst,o.op,o.guard)
end Go.Am

