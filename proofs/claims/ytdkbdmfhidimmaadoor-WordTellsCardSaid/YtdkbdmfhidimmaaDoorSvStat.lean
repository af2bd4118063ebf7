/- Variables of the library that are there and are never written: where each lies, what is told of it. -/
import Derived.CallsIn
namespace Go.Sv
open Go
def statics : List (Nat × (Value → Prop)) := [(7, fun v => v = .nilIface ∨ ∃ te pe, v = .iface te pe), (8, fun v => v = .nilIface ∨ ∃ te pe, v = .iface te pe), (0, fun v => v = .iface 96 (.agg #[.pointer (some ⟨9, 27, none⟩)]))]
end Go.Sv
