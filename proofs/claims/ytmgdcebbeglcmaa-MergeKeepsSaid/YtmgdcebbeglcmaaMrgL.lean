/- What the laws of layer 13 share. -/
import Derived.Test.YtmgdcebbeglcmaaMrgZ
namespace Go.Proofs.Ytmgdcebbeglcmaa.Ew
open Go.RowKit
open En B
set_option linter.unusedVariables false

def sl3 (x y z : Option Addr × Nat × Nat) (i : Nat) : Option Addr × Nat × Nat := if i = 0 then x else if i = 1 then y else z
theorem lsrow3 {w : World} {g : Nat} {T : TypeId} {p1 p2 p3 : Option Addr} {d1 d2 d3 : Nat} {A B C : List Ent} (h : w.heap[g]? = some (.cells #[.slice p1 A.length d1, .slice p2 B.length d2, .slice p3 C.length d3] T (0, 0)))
    (h1 : A.length ≤ d1 ∧ ERow w p1 A.length (fun i => A.getD i ent0)) (h2 : B.length ≤ d2 ∧ ERow w p2 B.length (fun i => B.getD i ent0)) (h3 : C.length ≤ d3 ∧ ERow w p3 C.length (fun i => C.getD i ent0)) :
    LsRow w (some ⟨g, 0, none⟩) 3 (sl3 (p1, A.length, d1) (p2, B.length, d2) (p3, C.length, d3)) [A, B, C] := by
  refine ⟨rfl, .inr ⟨g, 0, rfl, lt_of_block h, fun i hi => ?_⟩, fun i hi => ?_⟩
  · have hc := fun j => cell_of_row w g j _ _ _ h
    obtain rfl | rfl | rfl : i = 0 ∨ i = 1 ∨ i = 2 := by omega
    · exact hc 0
    · exact hc 1
    · exact hc 2
  · obtain rfl | rfl | rfl : i = 0 ∨ i = 1 ∨ i = 2 := by omega
    · exact ⟨rfl, h1.1, h1.2⟩
    · exact ⟨rfl, h2.1, h2.2⟩
    · exact ⟨rfl, h3.1, h3.2⟩
theorem lsrow0 (w : World) (sl : Nat → Option Addr × Nat × Nat) : LsRow w none 0 sl [] := ⟨rfl, .inl rfl, fun i hi => by omega⟩
/-- what ordered hands back -/
theorem ord_len (L : List Ent) : (mpAll [] (L.take 100)).length ≤ 100 := by
  have := mpAll_len (L.take 100) []
  rw [List.length_take] at this
  simp at this
  omega
theorem ord_sorted (L : List Ent) : Sorted (mpAll [] (L.take 100)) := mpAll_sorted _ sorted_nil
/-- entries somewhere -/
structure At (w : World) (p : Option Addr) (d : Nat) (R : List Ent) : Prop where
  cap : R.length ≤ d
  top : d ≤ 9223372036854775807
  row : ERow w p R.length (fun i => R.getD i ent0)
theorem At.below {w w' : World} {p : Option Addr} {d : Nat} {R : List Ent} (h : At w p d R) (k : Below w.heap.size w w') : At w' p d R := ⟨h.cap, h.top, h.row.below k⟩
theorem at_own {w : World} {B : Nat} {T : TypeId} {p : Option Addr} {d : Nat} {R : List Ent} (h : w.ownsRow B T 5 (.slice p R.length d) R.length (ecells R)) : At w p d R := by
  obtain ⟨h1, h2, h3⟩ := own_inp h
  exact ⟨h1, h2, h3⟩
theorem row_take {w : World} {a : Option Addr} {n k : Nat} {z : List Int} (h : Row w a n (fun i => .int .i64 (z.getD i 0))) (hk : k ≤ n) : Row w a k (fun i => .int .i64 ((z.take k).getD i 0)) := by
  rcases h with h | ⟨b, off, ha, hb, hc⟩
  · exact .inl (by omega)
  · refine .inr ⟨b, off, ha, hb, fun i hi => ?_⟩
    have := hc i (by omega)
    have e : (z.take k).getD i 0 = z.getD i 0 := by rw [List.getD_eq_getElem?_getD, List.getElem?_take, if_pos hi, ← List.getD_eq_getElem?_getD]
    show w.cell? ⟨b, off + i, none⟩ = some (Value.int .i64 ((z.take k).getD i 0))
    rw [e]
    exact this
end Go.Proofs.Ytmgdcebbeglcmaa.Ew
