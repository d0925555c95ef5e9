/- An entry stored into a row of the call's own. -/
import Derived.Test.YtmgdcebbeglcmaaOnly
import Derived.Laws.OwnMore
namespace Go.Proofs.Ytmgdcebbeglcmaa.En
open Go.RowKit
open B
set_option linter.unusedVariables false

theorem ecells_cons (e : Ent) (t : List Ent) : ecells (e :: t) = .string e.key :: .int .i64 e.seq :: .bool e.gone :: .string e.val :: .int .i64 e.til :: ecells t := rfl
theorem ecells_set (x : Ent) : ∀ (l : List Ent) (i : Nat), i < l.length →
    ((((((ecells l).set (i * 5) (.string x.key)).set (i * 5 + 1) (.int .i64 x.seq)).set (i * 5 + 2) (.bool x.gone)).set (i * 5 + 3) (.string x.val)).set (i * 5 + 4) (.int .i64 x.til)) = ecells (l.set i x)
  | [], i, h => by simp at h
  | e :: t, 0, _ => rfl
  | e :: t, i + 1, h => by
    have ih := ecells_set x t i (by simpa using h)
    rw [List.set_cons_succ, ecells_cons, ecells_cons, ← ih]
    rw [show (i + 1) * 5 = i * 5 + 5 from by omega]
    rfl
theorem own_at5 {w : World} {B n g cap : Nat} {e : TypeId} {l : List Ent} (h : w.ownsRow B e 5 (.slice (some ⟨g, 0, none⟩) n cap) n (ecells l)) (i : Nat) (hi : i < l.length) :
    w.cell? ⟨g, i * 5, none⟩ = some (.string (l.getD i ent0).key) ∧ w.cell? ⟨g, i * 5 + 1, none⟩ = some (.int .i64 (l.getD i ent0).seq) ∧ w.cell? ⟨g, i * 5 + 2, none⟩ = some (.bool (l.getD i ent0).gone) ∧
    w.cell? ⟨g, i * 5 + 3, none⟩ = some (.string (l.getD i ent0).val) ∧ w.cell? ⟨g, i * 5 + 4, none⟩ = some (.int .i64 (l.getD i ent0).til) := by
  have hn := (own_erow h).2.1
  rcases (own_erow h).2.2 with h9 | ⟨b3, o3, e3, _, hc3⟩
  · omega
  · cases e3
    have := hc3 i (by omega)
    rw [Nat.zero_add] at this
    exact this
theorem own_fz5 {w : World} {B n g cap : Nat} {e : TypeId} {l : List Ent} (h : w.ownsRow B e 5 (.slice (some ⟨g, 0, none⟩) n cap) n (ecells l)) (k : Nat) :
    w.frozen? ⟨g, k, none⟩ = false ∧ w.frozen? ⟨g, k + 1, none⟩ = false ∧ w.frozen? ⟨g, k + 2, none⟩ = false ∧ w.frozen? ⟨g, k + 3, none⟩ = false ∧ w.frozen? ⟨g, k + 4, none⟩ = false :=
  ⟨h.frozenAt _, h.frozenAt _, h.frozenAt _, h.frozenAt _, h.frozenAt _⟩
theorem EBox.fz {w : World} {g : Nat} {t : TypeId} {e : Ent} (h : EBox w g t e) (k : Nat) : w.frozen? ⟨g, k, none⟩ = false := by
  unfold EBox at h
  simp [World.frozen?, h]
theorem EBox.set2 {w : World} {g : Nat} {t : TypeId} {e : Ent} (h : EBox w g t e) (b : Bool) : EBox (w.setCell ⟨g, 2, none⟩ (.bool b)) g t { e with gone := b } := by
  unfold EBox at h ⊢; rw [heap_setCell_same w g 2 _ _ _ h]; rfl
theorem EBox.set3 {w : World} {g : Nat} {t : TypeId} {e : Ent} (h : EBox w g t e) (b : ByteArray) : EBox (w.setCell ⟨g, 3, none⟩ (.string b)) g t { e with val := b } := by
  unfold EBox at h ⊢; rw [heap_setCell_same w g 3 _ _ _ h]; rfl
theorem EBox.set4 {w : World} {g : Nat} {t : TypeId} {e : Ent} (h : EBox w g t e) (b : Int) : EBox (w.setCell ⟨g, 4, none⟩ (.int .i64 b)) g t { e with til := b } := by
  unfold EBox at h ⊢; rw [heap_setCell_same w g 4 _ _ _ h]; rfl
theorem EBox.far {w : World} {g : Nat} {t : TypeId} {e : Ent} (h : EBox w g t e) {p : Addr} (hp : g ≠ p.block) (v : Value) : EBox (w.setCell p v) g t e := (Below.heap_setCell w p v g hp).trans h
theorem EBox.only {w w' : World} {g b : Nat} {t : TypeId} {e : Ent} (h : EBox w g t e) (k : Only b w w') (hne : g ≠ b) : EBox w' g t e := k.blk h hne
/-- the five stores -/
def set5 (w : World) (g k : Nat) (x : Ent) : World :=
  ((((w.setCell ⟨g, k, none⟩ (.string x.key)).setCell ⟨g, k + 1, none⟩ (.int .i64 x.seq)).setCell ⟨g, k + 2, none⟩ (.bool x.gone)).setCell ⟨g, k + 3, none⟩ (.string x.val)).setCell ⟨g, k + 4, none⟩ (.int .i64 x.til)
theorem own_set5 {w : World} {B n g cap : Nat} {e : TypeId} {l : List Ent} (h : w.ownsRow B e 5 (.slice (some ⟨g, 0, none⟩) n cap) n (ecells l)) (i : Nat) (hi : i < l.length) (x : Ent) :
    (set5 w g (i * 5) x).ownsRow B e 5 (.slice (some ⟨g, 0, none⟩) n cap) n (ecells (l.set i x)) := by
  have h1 := (h.stored (i * 5) (.string x.key)).1
  have h2 := (h1.stored (i * 5 + 1) (.int .i64 x.seq)).1
  have h3 := (h2.stored (i * 5 + 2) (.bool x.gone)).1
  have h4 := (h3.stored (i * 5 + 3) (.string x.val)).1
  have h5 := (h4.stored (i * 5 + 4) (.int .i64 x.til)).1
  rw [ecells_set x l i hi] at h5
  exact h5
theorem own_far {w : World} {B n g cap : Nat} {e : TypeId} {xs : List Value} (h : w.ownsRow B e 5 (.slice (some ⟨g, 0, none⟩) n cap) n xs) {p : Addr} (hp : g ≠ p.block) (v : Value) : (w.setCell p v).ownsRow B e 5 (.slice (some ⟨g, 0, none⟩) n cap) n xs := by
  refine ⟨h.1, ?_⟩
  rcases h.2 with hv | ⟨g', cap', cur, hv, hB, hb, hr⟩
  · exact .inl hv
  · refine .inr ⟨g', cap', cur, hv, hB, ?_, hr⟩
    cases hv
    exact (Below.heap_setCell w p v g hp).trans hb
theorem EBox.set5 {w : World} {g : Nat} {t : TypeId} {e : Ent} (h : EBox w g t e) (x : Ent) : EBox (En.set5 w g 0 x) g t x := by
  unfold EBox at h ⊢
  unfold En.set5
  have h1 := heap_setCell_same w g 0 _ t (.string x.key) h
  have h2 := heap_setCell_same _ g 1 _ t (.int .i64 x.seq) h1
  have h3 := heap_setCell_same _ g 2 _ t (.bool x.gone) h2
  have h4 := heap_setCell_same _ g 3 _ t (.string x.val) h3
  have h5 := heap_setCell_same _ g 4 _ t (.int .i64 x.til) h4
  exact h5
theorem below_set5 {w a : World} {B g k : Nat} (h : Below B w a) (hg : B ≤ g) (x : Ent) : Below B w (set5 a g k x) :=
  ((((h.setCell (p := ⟨g, k, none⟩) hg _).setCell (p := ⟨g, k + 1, none⟩) hg _).setCell (p := ⟨g, k + 2, none⟩) hg _).setCell (p := ⟨g, k + 3, none⟩) hg _).setCell (p := ⟨g, k + 4, none⟩) hg _
end Go.Proofs.Ytmgdcebbeglcmaa.En
