/- A part of the proof of SyntaxRename. -/
import Derived.Test.YtbmlpamppbcdeaaGreatDoorAmC
import Derived.Recover
namespace Go.Am
end Go.Am

