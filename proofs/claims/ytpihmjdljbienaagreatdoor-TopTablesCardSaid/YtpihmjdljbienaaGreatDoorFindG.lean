/- The walk of the reference's Get of a list. -/
import Derived.Test.YtpihmjdljbienaaGreatDoorGa
import Derived.Test.YtpihmjdljbienaaGreatDoorGb
namespace Go.Proofs.YtpihmjdljbienaaGreatDoor.Ew
open Go.RowKit
open En B
set_option linter.unusedVariables false

def GotG (w : World) (r : Ent × Bool) (e : Ending) (w' : World) : Prop :=
  e = .returned (.tuple #[r.1.v, .bool r.2]) ∧ Below w.heap.size w w'
end Go.Proofs.YtpihmjdljbienaaGreatDoor.Ew
