/- Variables of the library that are there and are never written: where each lies, what is told of it. -/
import Derived.CallsIn
namespace Go.Sv
open Go
def statics : List (Nat × (Value → Prop)) := [(7, fun v => v = .nilIface ∨ ∃ te pe, v = .iface te pe), (8, fun v => v = .nilIface ∨ ∃ te pe, v = .iface te pe)]
end Go.Sv
