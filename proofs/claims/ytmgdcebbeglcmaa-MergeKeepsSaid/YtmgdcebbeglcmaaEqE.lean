/- Two entries held against each other. -/
import Derived.Test.YtmgdcebbeglcmaaRows
import Derived.Test.YtmgdcebbeglcmaaEnt
import Derived.Laws.StructEq
namespace Go.Proofs.Ytmgdcebbeglcmaa.Ew
open Go.RowKit
open En B
set_option linter.unusedVariables false

def eqE (x y : Ent) : Bool := x.key.toList == y.key.toList && (x.seq == y.seq && (x.gone == y.gone && (x.val.toList == y.val.toList && x.til == y.til)))
theorem eqE_refl (x : Ent) : eqE x x = true := by simp [eqE]
theorem toList_inj {a b : ByteArray} (h : a.toList = b.toList) : a = b := by
  rw [ByteArray.toList_eq, ByteArray.toList_eq] at h
  obtain ⟨⟨x⟩⟩ := a
  obtain ⟨⟨y⟩⟩ := b
  simp at h
  rw [h]
theorem eqE_iff (x y : Ent) : eqE x y = true ↔ x = y := by
  constructor
  · intro h
    simp only [eqE, Bool.and_eq_true, beq_iff_eq] at h
    obtain ⟨h1, h2, h3, h4, h5⟩ := h
    obtain ⟨k, q, g, v, u⟩ := x
    obtain ⟨k', q', g', v', u'⟩ := y
    simp only at h1 h2 h3 h4 h5
    rw [toList_inj h1, h2, h3, toList_inj h4, h5]
  · rintro rfl; exact eqE_refl _

theorem pick5 {k k' : ByteArray} {q q' : Int} {g g' : Bool} {v v' : ByteArray} {u u' : Int} (_ _ _ _ _ : Unit) (W : World) :
    (if k.toList = k'.toList then if q = q' then if g = g' then if v.toList = v'.toList then if u = u' then Result.ok true W else Result.ok false W else Result.ok false W else Result.ok false W else Result.ok false W else Result.ok false W) =
    Result.ok (eqE ⟨k, q, g, v, u⟩ ⟨k', q', g', v', u'⟩) W := by
  by_cases h1 : k.toList = k'.toList <;> by_cases h2 : q = q' <;> by_cases h3 : g = g' <;> by_cases h4 : v.toList = v'.toList <;> by_cases h5 : u = u' <;> simp [eqE, h1, h2, h3, h4, h5]

theorem eqIn_api (k : ByteArray) (q : Int) (g : Bool) (v : ByteArray) (u : Int) (k' : ByteArray) (q' : Int) (g' : Bool) (v' : ByteArray) (u' : Int) (W : World) :
    (Op.equalIn 10000 37 (.agg #[.string k, .int .i64 q, .bool g, .string v, .int .i64 u]) (.agg #[.string k', .int .i64 q', .bool g', .string v', .int .i64 u'])).run Try.prog W = .ok (eqE ⟨k, q, g, v, u⟩ ⟨k', q', g', v', u'⟩) W := by
  rw [run_equalIn_agg W 9999 37 _ _ (by kernel_rfl) (by kernel_rfl)]
  go_simp
  exact pick5 () () () () () W
theorem eql_api (k : ByteArray) (q : Int) (g : Bool) (v : ByteArray) (u : Int) (k' : ByteArray) (q' : Int) (g' : Bool) (v' : ByteArray) (u' : Int) (W : World) :
    (binOp .eql 37 (.agg #[.string k, .int .i64 q, .bool g, .string v, .int .i64 u]) (.agg #[.string k', .int .i64 q', .bool g', .string v', .int .i64 u'])).run Try.prog W = .ok (.bool (eqE ⟨k, q, g, v, u⟩ ⟨k', q', g', v', u'⟩)) W := by
  rw [run_eql_struct, eqIn_api]; rfl
theorem neq_api (k : ByteArray) (q : Int) (g : Bool) (v : ByteArray) (u : Int) (k' : ByteArray) (q' : Int) (g' : Bool) (v' : ByteArray) (u' : Int) (W : World) :
    (binOp .neq 37 (.agg #[.string k, .int .i64 q, .bool g, .string v, .int .i64 u]) (.agg #[.string k', .int .i64 q', .bool g', .string v', .int .i64 u'])).run Try.prog W = .ok (.bool (!(eqE ⟨k, q, g, v, u⟩ ⟨k', q', g', v', u'⟩))) W := by
  rw [run_neq_struct, eqIn_api]; rfl

theorem eqIn_ref (k : ByteArray) (q : Int) (g : Bool) (v : ByteArray) (u : Int) (k' : ByteArray) (q' : Int) (g' : Bool) (v' : ByteArray) (u' : Int) (W : World) :
    (Op.equalIn 10000 39 (.agg #[.string k, .int .i64 q, .bool g, .string v, .int .i64 u]) (.agg #[.string k', .int .i64 q', .bool g', .string v', .int .i64 u'])).run Try.prog W = .ok (eqE ⟨k, q, g, v, u⟩ ⟨k', q', g', v', u'⟩) W := by
  rw [run_equalIn_agg W 9999 39 _ _ (by kernel_rfl) (by kernel_rfl)]
  go_simp
  exact pick5 () () () () () W
theorem eql_ref (k : ByteArray) (q : Int) (g : Bool) (v : ByteArray) (u : Int) (k' : ByteArray) (q' : Int) (g' : Bool) (v' : ByteArray) (u' : Int) (W : World) :
    (binOp .eql 39 (.agg #[.string k, .int .i64 q, .bool g, .string v, .int .i64 u]) (.agg #[.string k', .int .i64 q', .bool g', .string v', .int .i64 u'])).run Try.prog W = .ok (.bool (eqE ⟨k, q, g, v, u⟩ ⟨k', q', g', v', u'⟩)) W := by
  rw [run_eql_struct, eqIn_ref]; rfl
theorem neq_ref (k : ByteArray) (q : Int) (g : Bool) (v : ByteArray) (u : Int) (k' : ByteArray) (q' : Int) (g' : Bool) (v' : ByteArray) (u' : Int) (W : World) :
    (binOp .neq 39 (.agg #[.string k, .int .i64 q, .bool g, .string v, .int .i64 u]) (.agg #[.string k', .int .i64 q', .bool g', .string v', .int .i64 u'])).run Try.prog W = .ok (.bool (!(eqE ⟨k, q, g, v, u⟩ ⟨k', q', g', v', u'⟩))) W := by
  rw [run_neq_struct, eqIn_ref]; rfl
end Go.Proofs.Ytmgdcebbeglcmaa.Ew
