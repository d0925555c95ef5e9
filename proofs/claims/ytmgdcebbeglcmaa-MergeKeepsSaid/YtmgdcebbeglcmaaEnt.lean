/- Entries as plain data, and slices of them in memory: five cells each. -/
import Derived.Test.YtmgdcebbeglcmaaBase
namespace Go.Proofs.Ytmgdcebbeglcmaa.En
open Go.RowKit
open B
set_option linter.unusedVariables false

/-- an entry -/
structure Ent where
  key : ByteArray
  seq : Int
  gone : Bool
  val : ByteArray
  til : Int

def Ent.cells (e : Ent) : List Value := [.string e.key, .int .i64 e.seq, .bool e.gone, .string e.val, .int .i64 e.til]
def Ent.v (e : Ent) : Value := .agg #[.string e.key, .int .i64 e.seq, .bool e.gone, .string e.val, .int .i64 e.til]
def ent0 : Ent := ⟨ByteArray.empty, 0, false, ByteArray.empty, 0⟩
def ecells (l : List Ent) : List Value := l.flatMap Ent.cells
theorem ecells_append (l m : List Ent) : ecells (l ++ m) = ecells l ++ ecells m := List.flatMap_append
theorem ecells_one (e : Ent) : ecells [e] = e.cells := by simp [ecells]
theorem ecells_snoc (l : List Ent) (e : Ent) : ecells (l ++ [e]) = ecells l ++ e.cells := by rw [ecells_append, ecells_one]
theorem ecells_len (l : List Ent) : (ecells l).length = l.length * 5 := by
  induction l with
  | nil => rfl
  | cons e t ih => simp only [ecells, List.flatMap_cons, List.length_append] at ih ⊢; rw [ih]; simp [Ent.cells]; omega
theorem ecells_at (l : List Ent) (i j : Nat) (h : i < l.length) (hj : j < 5) : (ecells l)[i * 5 + j]? = (l.getD i ent0).cells[j]? := by
  induction l generalizing i with
  | nil => simp at h
  | cons e t ih =>
    have hl : e.cells.length = 5 := rfl
    show (e.cells ++ ecells t)[i * 5 + j]? = _
    cases i with
    | zero => rw [List.getElem?_append_left (by omega)]; simp
    | succ i =>
      rw [List.getElem?_append_right (by omega), show (i + 1) * 5 + j - e.cells.length = i * 5 + j from by omega]
      exact ih i (by simpa using h)

/-- what the reader says of an entry: numbers and sizes -/
structure Fits (e : Ent) : Prop where
  key : e.key.size ≤ 140737488351232
  val : e.val.size ≤ 140737488351232
  seq0 : -9223372036854775808 ≤ e.seq
  seq1 : e.seq ≤ 9223372036854775807
  til0 : -9223372036854775808 ≤ e.til
  til1 : e.til ≤ 9223372036854775807

/-- n entries, wherever they lie -/
def ERow (w : World) (a : Option Addr) (n : Nat) (f : Nat → Ent) : Prop :=
  n = 0 ∨ ∃ b off, a = some ⟨b, off, Option.none⟩ ∧ b < w.heap.size ∧ ∀ i, i < n →
    w.cell? ⟨b, off + i * 5, Option.none⟩ = some (.string (f i).key) ∧ w.cell? ⟨b, off + i * 5 + 1, Option.none⟩ = some (.int .i64 (f i).seq) ∧ w.cell? ⟨b, off + i * 5 + 2, Option.none⟩ = some (.bool (f i).gone) ∧
    w.cell? ⟨b, off + i * 5 + 3, Option.none⟩ = some (.string (f i).val) ∧ w.cell? ⟨b, off + i * 5 + 4, Option.none⟩ = some (.int .i64 (f i).til)
theorem ERow.below {w w' : World} {a : Option Addr} {n : Nat} {f : Nat → Ent} (h : ERow w a n f) (k : Below w.heap.size w w') : ERow w' a n f := by
  rcases h with h | ⟨b, off, ha, hb, hc⟩
  · exact .inl h
  · refine .inr ⟨b, off, ha, Nat.lt_of_lt_of_le hb k.size, fun i hi => ?_⟩
    obtain ⟨h0, h1, h2, h3, h4⟩ := hc i hi
    exact ⟨(k.cell (p := ⟨b, off + i * 5, Option.none⟩) hb).trans h0, (k.cell (p := ⟨b, off + i * 5 + 1, Option.none⟩) hb).trans h1, (k.cell (p := ⟨b, off + i * 5 + 2, Option.none⟩) hb).trans h2, (k.cell (p := ⟨b, off + i * 5 + 3, Option.none⟩) hb).trans h3, (k.cell (p := ⟨b, off + i * 5 + 4, Option.none⟩) hb).trans h4⟩
theorem ERow.at {w : World} {a : Option Addr} {n : Nat} {f : Nat → Ent} (h : ERow w a n f) (hn : 0 < n) : ∃ b off, a = some ⟨b, off, Option.none⟩ ∧ b < w.heap.size ∧ ∀ i, i < n →
    w.cell? ⟨b, off + i * 5, Option.none⟩ = some (.string (f i).key) ∧ w.cell? ⟨b, off + i * 5 + 1, Option.none⟩ = some (.int .i64 (f i).seq) ∧ w.cell? ⟨b, off + i * 5 + 2, Option.none⟩ = some (.bool (f i).gone) ∧
    w.cell? ⟨b, off + i * 5 + 3, Option.none⟩ = some (.string (f i).val) ∧ w.cell? ⟨b, off + i * 5 + 4, Option.none⟩ = some (.int .i64 (f i).til) := by
  rcases h with h | h
  · omega
  · exact h
theorem ERow.congr {w : World} {a : Option Addr} {n : Nat} {f g : Nat → Ent} (h : ERow w a n f) (hfg : ∀ i, i < n → f i = g i) : ERow w a n g := by
  rcases h with h | ⟨b, off, ha, hb, hc⟩
  · exact .inl h
  · exact .inr ⟨b, off, ha, hb, fun i hi => by rw [← hfg i hi]; exact hc i hi⟩
theorem ERow.take {w : World} {a : Option Addr} {n m : Nat} {f : Nat → Ent} (h : ERow w a n f) (hm : m ≤ n) : ERow w a m f := by
  rcases h with h | ⟨b, off, ha, hb, hc⟩
  · exact .inl (by omega)
  · exact .inr ⟨b, off, ha, hb, fun i hi => hc i (by omega)⟩
theorem own_erow {w : World} {B n : Nat} {e : TypeId} {a : Option Addr} {m cap : Nat} {l : List Ent} (h : w.ownsRow B e 5 (.slice a m cap) n (ecells l)) : m = n ∧ n = l.length ∧ ERow w a n (fun i => l.getD i ent0) := by
  have hl := h.1
  rw [ecells_len] at hl
  have hn : n = l.length := by omega
  rcases h.2 with ⟨hv, h0⟩ | ⟨g, cap', cur, hv, hB, hg, hnc, hm, hs, ht⟩
  · cases hv; exact ⟨h0.symm, hn, .inl h0⟩
  · cases hv
    refine ⟨rfl, hn, .inr ⟨g, 0, rfl, lt_of_block hg, fun i hi => ?_⟩⟩
    have key : ∀ j, j < 5 → w.cell? ⟨g, 0 + i * 5 + j, Option.none⟩ = (l.getD i ent0).cells[j]? := by
      intro j hj
      have h2 := World.ownsRow.cellAt (w := w) (base := B) (e := e) (size := 5) (g := g) (n := n) (cap := cap) (xs := ecells l) ⟨h.1, .inr ⟨g, cap, cur, rfl, hB, hg, hnc, hm, hs, ht⟩⟩ (i * 5 + j) (by omega)
      rw [Nat.zero_add, h2, ← ecells_at l i j (by omega) hj]
    exact ⟨key 0 (by omega), key 1 (by omega), key 2 (by omega), key 3 (by omega), key 4 (by omega)⟩

/-- an entry in a block of its own -/
def EBox (w : World) (g : Nat) (t : TypeId) (e : Ent) : Prop := w.heap[g]? = some (.cells #[.string e.key, .int .i64 e.seq, .bool e.gone, .string e.val, .int .i64 e.til] t (0, 0))
theorem EBox.new (w : World) (t : TypeId) (e : Ent) : EBox (w.alloc (.cells #[.string e.key, .int .i64 e.seq, .bool e.gone, .string e.val, .int .i64 e.til] t)) w.heap.size t e := heap_alloc_new w _
theorem EBox.below {w w' : World} {g : Nat} {t : TypeId} {e : Ent} (h : EBox w g t e) (k : Below w.heap.size w w') : EBox w' g t e := (k.block g (lt_of_block h)).trans h
theorem EBox.keeps {w w' : World} {g : Nat} {t : TypeId} {e : Ent} {ts : List TypeId} (h : EBox w g t e) (k : Keeps ts w w') (ht : t ∉ ts) : EBox w' g t e := k _ _ _ _ h ht
theorem EBox.cells {w : World} {g : Nat} {t : TypeId} {e : Ent} (h : EBox w g t e) : w.cell? ⟨g, 0, none⟩ = some (.string e.key) ∧ w.cell? ⟨g, 1, none⟩ = some (.int .i64 e.seq) ∧ w.cell? ⟨g, 2, none⟩ = some (.bool e.gone) ∧ w.cell? ⟨g, 3, none⟩ = some (.string e.val) ∧ w.cell? ⟨g, 4, none⟩ = some (.int .i64 e.til) :=
  ⟨cell_of_row w g 0 _ _ _ h, cell_of_row w g 1 _ _ _ h, cell_of_row w g 2 _ _ _ h, cell_of_row w g 3 _ _ _ h, cell_of_row w g 4 _ _ _ h⟩

/-! what may be put -/
def goodE (e : Ent) : Int :=
  if 64 < e.key.size ∨ 512 < e.val.size then 5 else if e.key.size = 0 ∨ e.seq < 1 ∨ e.til < 0 ∨ (e.gone = true ∧ (e.val.size ≠ 0 ∨ e.til ≠ 0)) then 2 else 0
def goodI (e : Ent) : Int :=
  if goodE { e with seq := 1 } ≠ 0 then goodE { e with seq := 1 } else if e.til = 9223372036854775807 then 2 else 0
end Go.Proofs.Ytmgdcebbeglcmaa.En
