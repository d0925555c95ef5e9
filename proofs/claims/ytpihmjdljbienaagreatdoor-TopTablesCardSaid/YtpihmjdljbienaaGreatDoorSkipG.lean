/- The walks of Get, Len, Size, From. -/
import Derived.Test.YtpihmjdljbienaaGreatDoorSkipW
import Derived.Test.YtpihmjdljbienaaGreatDoorFindG
namespace Go.Proofs.YtpihmjdljbienaaGreatDoor.Sw
open Ew
open Go.RowKit
open En B
set_option linter.unusedVariables false

def GotS (w : World) (r : Ent × Bool) (e : Ending) (w' : World) : Prop :=
  e = .returned (.tuple #[r.1.v, .bool r.2]) ∧ Below w.heap.size w w'
set_option maxHeartbeats 400000 in
theorem len_any (w : World) (B lb : Nat) (z : List Int) (ns : List Nd) (size : Int) (hsk : SK w B lb z ns size) :
    Calls Tryz.prog 28 #[.pointer (some ⟨lb, 0, none⟩)] w fun e w' => e = .returned (.int .i64 ns.length) ∧ w = w' := by
  obtain ⟨ha, ca, cc, hlb, hLB, hTW, _⟩ := hsk
  have c7 := hLB.cells.2.2.1
  clear hLB hTW
  go_enter Tryz.func28, Tryz.ntmps28
  go_wp2_with fail
  go_ret
  exact ⟨rfl, rfl⟩
set_option maxHeartbeats 400000 in
theorem from_any (w : World) (lb : Nat) (key : ByteArray) :
    Calls Tryz.prog 17 #[.pointer (some ⟨lb, 0, none⟩), .string key] w fun e w' => (∃ a b, e = .returned (.func (.func 57) #[] #[.pointer (some ⟨a, 0, none⟩), .pointer (some ⟨b, 0, none⟩)])) ∧ Below w.heap.size w w' := by
  have hmf : ∀ (fn : Fn) (first cap : Array Value) (w : World), (Instr.makeFunc fn first cap).run Tryz.prog w = .ok (.func fn first cap) w := fun _ _ _ _ => rfl
  go_enter Tryz.func17, Tryz.ntmps17
  go_wp2_with fail
  go_ret
  exact ⟨⟨_, _, rfl⟩, below_alloc (below_alloc (Below.refl _ _) _) _⟩
end Go.Proofs.YtpihmjdljbienaaGreatDoor.Sw
