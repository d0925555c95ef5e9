/- What is turned but for one block; panics that leave a function. -/
import Derived.Test.YtmgdcebbeglcmaaTwo
import Derived.Deep.QuietTactic
import Derived.BigQuiet
namespace Go.Proofs.Ytmgdcebbeglcmaa.B
open Go.RowKit
set_option linter.unusedVariables false

/-- among the elder blocks only block g may have turned -/
def Only (g : Nat) (w w' : World) : Prop := w.grownBy w' (some g)
theorem Only.refl (g : Nat) (w : World) : Only g w w := World.grownBy.refl w _
theorem Only.trans {g : Nat} {a b c : World} (h : Only g a b) (k : Only g b c) : Only g a c :=
  ⟨k.os.trans h.os, k.tape.trans h.tape, k.output.trans h.output, Nat.le_trans h.size k.size, fun i hi hn => (k.block i (Nat.lt_of_lt_of_le hi h.size) hn).trans (h.block i hi hn)⟩
theorem Only.of_below {g : Nat} {a b : World} (h : Below a.heap.size a b) : Only g a b := ⟨h.os, h.tape, h.output, h.size, fun i hi _ => h.block i hi⟩
theorem Only.drew {g : Nat} {a b : World} (h : Only g a b) : Only g a b.drew := ⟨h.os, h.tape, h.output, h.size, h.block⟩
theorem Only.drewN {g : Nat} {a b : World} (h : Only g a b) (n : Nat) : Only g a (b.drewN n) := ⟨h.os, h.tape, h.output, h.size, h.block⟩
theorem Only.set {g : Nat} {a b : World} (h : Only g a b) (o : Nat) (v : Value) : Only g a (b.setCell ⟨g, o, none⟩ v) :=
  ⟨h.os, h.tape, h.output, by simpa [World.setCell] using h.size, fun i hi hn => (Below.heap_setCell b ⟨g, o, none⟩ v i (fun e => hn (by rw [e]))).trans (h.block i hi hn)⟩
theorem Only.new {g : Nat} {a b : World} (h : Only g a b) {p : Addr} (hp : a.heap.size ≤ p.block) (v : Value) : Only g a (b.setCell p v) :=
  ⟨h.os, h.tape, h.output, by simpa [World.setCell] using h.size, fun i hi hn => (Below.heap_setCell b p v i (fun e => by omega)).trans (h.block i hi hn)⟩
theorem Only.blk {g b : Nat} {w w' : World} (h : Only g w w') {x : Obj} (hb : w.heap[b]? = some x) (hne : b ≠ g) : w'.heap[b]? = some x := (h.block b (lt_of_block hb) (fun e => hne (Option.some.inj e))).trans hb
theorem Only.below {g B : Nat} {w0 a b : World} (h : Below B w0 a) (k : Only g a b) (hg : B ≤ g) (hB : B ≤ a.heap.size) : Below B w0 b :=
  ⟨k.os.trans h.os, k.tape.trans h.tape, k.output.trans h.output, Nat.le_trans h.size k.size, fun i hi => (k.block i (by omega) (fun e => by have := Option.some.inj e; omega)).trans (h.block i hi)⟩
theorem Only.own {g : Nat} {w w' : World} {B n size : Nat} {e : TypeId} {v : Value} {xs : List Value} (h : w.ownsRow B e size v n xs) (k : Only g w w') (hne : v.ownBlock ≠ some g) : w'.ownsRow B e size v n xs :=
  h.kept k (.inr hne)

/-- a variable: a block of one cell -/
def Cell1 (w : World) (g : Nat) (t : TypeId) (v : Value) : Prop := w.heap[g]? = some (.cells #[v] t (0, 0))
theorem Cell1.cell {w : World} {g : Nat} {t : TypeId} {v : Value} (h : Cell1 w g t v) : w.cell? ⟨g, 0, none⟩ = some v := cell_of_row w g 0 _ _ _ h
theorem Cell1.fz {w : World} {g : Nat} {t : TypeId} {v : Value} (h : Cell1 w g t v) : w.frozen? ⟨g, 0, none⟩ = false := by
  unfold Cell1 at h; simp [World.frozen?, h]
theorem Cell1.set {w : World} {g : Nat} {t : TypeId} {v : Value} (h : Cell1 w g t v) (u : Value) : Cell1 (w.setCell ⟨g, 0, none⟩ u) g t u := by
  unfold Cell1 at h ⊢; rw [heap_setCell_same w g 0 _ _ _ h]; rfl
theorem Cell1.far {w : World} {g : Nat} {t : TypeId} {v : Value} (h : Cell1 w g t v) {p : Addr} (hp : g ≠ p.block) (u : Value) : Cell1 (w.setCell p u) g t v := (Below.heap_setCell w p u g hp).trans h
theorem Cell1.only {w w' : World} {g b : Nat} {t : TypeId} {v : Value} (h : Cell1 w g t v) (k : Only b w w') (hne : g ≠ b) : Cell1 w' g t v := k.blk h hne
theorem Cell1.below {w w' : World} {g : Nat} {t : TypeId} {v : Value} (h : Cell1 w g t v) (k : Below w.heap.size w w') : Cell1 w' g t v := (k.block g (lt_of_block h)).trans h
theorem Cell1.keeps {w w' : World} {g : Nat} {t : TypeId} {v : Value} {ts : List TypeId} (h : Cell1 w g t v) (k : Keeps ts w w') (ht : t ∉ ts) : Cell1 w' g t v := k _ _ _ _ h ht
theorem Cell1.lt {w : World} {g : Nat} {t : TypeId} {v : Value} (h : Cell1 w g t v) : g < w.heap.size := lt_of_block h

theorem quiet_add_left {P : Program} {f : FuncId} {args : Array Value} {w : World} {n : Nat} {v : Value} (h : Calls P f args (w.drewN n) fun e w' => e = .returned v ∧ w.drewN n = w') :
    Calls P f args (w.drewN n) fun e w'' => e = .returned v ∧ ∃ m, w'' = w.drewN m := h.mono fun _ _ ⟨he, hm⟩ => ⟨he, n, hm.symm⟩
/-- a panic with a value of a type of the program's own -/
abbrev pan (t : TypeId) (n : Int) : Ending := .panicked [{ v := .iface t (.int .i64 n), recovered := false }]
end Go.Proofs.Ytmgdcebbeglcmaa.B
