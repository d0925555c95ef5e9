/- Several texts in one: Open, OpenE, OpenL, OpenA. -/
import Derived.Test.YtpihmjdljbienaaGreatDoorRows
import Derived.Test.YtpihmjdljbienaaGreatDoorGa
import Derived.ProofKit
import Derived.OpenShut
import Derived.SliceStrings
import Derived.Deep.Slices
import Derived.Deep.Fields
/- Arguments opened, and what the second form's bound says of them. -/
namespace Go.Proofs.YtpihmjdljbienaaGreatDoor.Op
open Go.ChangeShapes Go.WideShapes Go.ChangeAt Go.RowKit
open Go.ChangeMaps (open_string shut_string)
open B
set_option linter.unusedVariables false

/-! ### bulk -/
theorem one_le {H : Type} (d : DataW H) : 1 ≤ Rows.uptoBulk d := by
  cases d with
  | lit l => cases l <;> simp [Rows.uptoBulk]
  | nil => simp [Rows.uptoBulk]
  | ptr d => simp [Rows.uptoBulk]
  | slice elems spare => simp [Rows.uptoBulk]
  | agg parts => simp [Rows.uptoBulk]
  | iface t d => simp [Rows.uptoBulk]
  | map entries => simp [Rows.uptoBulk]
  | held h => simp [Rows.uptoBulk]
theorem part_le {H : Type} {d : DataW H} {l : List (DataW H)} (h : d ∈ l) : Rows.uptoBulk d ≤ Rows.uptoBulkAll l := by
  induction l with
  | nil => cases h
  | cons x r ih =>
    simp only [Rows.uptoBulkAll]
    cases List.mem_cons.1 h with
    | inl e => subst e; omega
    | inr e => have := ih e; omega
theorem bulk_append {H : Type} (l r : List (DataW H)) : Rows.uptoBulkAll (l ++ r) = Rows.uptoBulkAll l + Rows.uptoBulkAll r := by
  induction l with
  | nil => simp [Rows.uptoBulkAll]
  | cons x l ih => simp only [List.cons_append, Rows.uptoBulkAll, ih]; omega
theorem length_le {H : Type} (l : List (DataW H)) : l.length ≤ Rows.uptoBulkAll l := by
  induction l with
  | nil => simp [Rows.uptoBulkAll]
  | cons x r ih => have := one_le x; simp only [Rows.uptoBulkAll, List.length_cons]; omega

section
variable {H : Type} {enc : TypeId × Value → H} {P : Program} {w : World} {b0 base : Nat} {sp : Nat → Bool} {held : Bool} {r : Reach}

/-- a row's cells, from a reading's -/
theorem row_of {a : Addr} {m n : Nat} {f : Nat → Value} (hn : n ≤ m) (hc : ∀ i, i < m → w.cell? (a.add i) = some (f i)) : Row w (some a) n f := by
  by_cases h0 : n = 0
  · exact .inl h0
  · have h := hc 0 (by omega)
    have ha0 : a.add 0 = a := by simp [Addr.add]
    rw [ha0] at h
    have hs := World.cell?_spot h
    obtain ⟨b, off, spot⟩ := a
    subst hs
    refine .inr ⟨b, off, rfl, block_lt_of_cell (a := ⟨b, off, none⟩) h, fun i hi => ?_⟩
    have h2 := hc i (by omega)
    have : (⟨b, off, none⟩ : Addr).add i = ⟨b, off + i, none⟩ := by unfold Addr.add; split <;> simp_all
    rwa [this] at h2

/-- a string -/
theorem str1 {t : TypeId} {v : Value} {d : DataW H} {p : List MemPlace} (ht : P.underlying t = some .string) (hv : Value.okWide P w r b0 t v) (h : DataW.Trod enc P w base sp held t v d p) :
    ∃ s : ByteArray, v = .string s ∧ s.size + 1 ≤ Rows.uptoBulk d := by
  obtain ⟨s, rfl, rfl, rfl, _⟩ := open_string ht hv h
  exact ⟨s, rfl, by simp [Rows.uptoBulk]⟩
theorem int1 {t : TypeId} {k : IntKind} {v : Value} {d : DataW H} {p : List MemPlace} (ht : P.underlying t = some (.int k)) (hv : Value.okWide P w r b0 t v) (h : DataW.Trod enc P w base sp held t v d p) :
    ∃ n : Int, v = .int k n ∧ (Lit.int k n).wf = true := by
  obtain ⟨n, rfl, rfl, rfl, hw⟩ := open_int ht hv h
  exact ⟨n, rfl, hw⟩

theorem take_getD {α : Type} (l : List α) (n i : Nat) (d : α) (h : i < n) : (l.take n).getD i d = l.getD i d := by
  simp only [List.getD_eq_getElem?_getD, List.getElem?_take_of_lt h]

/-- a slice of integers -/
theorem ints1 {t e : TypeId} {k : IntKind} {v : Value} {d : DataW H} {p : List MemPlace} (ht : P.underlying t = some (.slice e)) (he : P.underlying e = some (.int k)) (hc : P.cellsOf e = 1)
    (hv : Value.okWide P w r b0 t v) (h : DataW.Trod enc P w base sp held t v d p) :
    ∃ (a : Option Addr) (n cap : Nat) (zs : List Int), v = .slice a n cap ∧ zs.length = n ∧ (∀ x ∈ zs, (Lit.int k x).wf = true) ∧ Row w a n (fun i => .int k (zs.getD i 0)) ∧ n ≤ cap ∧ n + 1 ≤ Rows.uptoBulk d := by
  obtain ⟨a, n, cap, rfl⟩ := okWide_slice ht hv
  obtain ⟨fuel, hf⟩ := h
  rcases open_ints ht he hc hf with ⟨hcs, hx⟩ | ⟨x, l, c, zs, hcs, _, hl, hm, hz, hx, hcell, hwz⟩
  · simp [Value.cells] at hcs
    obtain ⟨rfl, rfl, rfl⟩ := hcs
    simp only [Prod.mk.injEq] at hx
    obtain ⟨rfl, rfl⟩ := hx
    exact ⟨none, 0, 0, [], rfl, rfl, by simp, .inl rfl, by omega, one_le _⟩
  · simp [Value.cells] at hcs
    obtain ⟨rfl, rfl, rfl⟩ := hcs
    simp only [Prod.mk.injEq] at hx
    obtain ⟨rfl, rfl⟩ := hx
    have hlen : n ≤ zs.length := by rw [hz]; split <;> omega
    refine ⟨_, _, _, zs.take n, rfl, by simp; omega, fun y hy => hwz y (List.mem_of_mem_take hy), ?_, hl, ?_⟩
    · refine row_of (m := n) (Nat.le_refl _) fun i hi => ?_
      rw [take_getD _ _ _ _ hi]
      exact hcell i (by omega)
    · have h1 := length_le (lits (H := H) k (zs.take n))
      have h2 : (lits (H := H) k (zs.take n)).length = n := by simp [lits]; omega
      simp only [Rows.uptoBulk]; omega

theorem ints2 {t e : TypeId} {k : IntKind} {v : Value} {d : DataW H} {p : List MemPlace} (ht : P.underlying t = some (.slice e)) (he : P.underlying e = some (.int k)) (hc : P.cellsOf e = 1)
    (hv : Value.okWide P w r b0 t v) (h : DataW.Trod enc P w base sp held t v d p) :
    ∃ (a : Option Addr) (n cap : Nat) (zs : List Int), v = .slice a n cap ∧ zs.length = n ∧ (∀ x ∈ zs, (Lit.int k x).wf = true) ∧ Row w a n (fun i => .int k (zs.getD i 0)) ∧ n ≤ cap ∧ cap ≤ maxLen ∧
      (∀ b, (∀ m ∈ d.weights P t, m ≤ b) → n * P.bytesOf e ≤ b) := by
  obtain ⟨a, n, cap, rfl⟩ := okWide_slice ht hv
  obtain ⟨fuel, hf⟩ := h
  rcases open_ints ht he hc hf with ⟨hcs, hx⟩ | ⟨x, l, c, zs, hcs, _, hl, hm, hz, hx, hcell, hwz⟩
  · simp [Value.cells] at hcs
    obtain ⟨rfl, rfl, rfl⟩ := hcs
    simp only [Prod.mk.injEq] at hx
    obtain ⟨rfl, rfl⟩ := hx
    exact ⟨none, 0, 0, [], rfl, rfl, by simp, .inl rfl, by omega, by unfold maxLen; omega, fun b _ => by omega⟩
  · simp [Value.cells] at hcs
    obtain ⟨rfl, rfl, rfl⟩ := hcs
    simp only [Prod.mk.injEq] at hx
    obtain ⟨rfl, rfl⟩ := hx
    have hlen : n ≤ zs.length := by rw [hz]; split <;> omega
    have hln : (lits (H := H) k (zs.take n)).length = n := by simp [lits]; omega
    refine ⟨_, _, _, zs.take n, rfl, by simp; omega, fun y hy => hwz y (List.mem_of_mem_take hy), ?_, hl, hm, fun b hb => ?_⟩
    · refine row_of (m := n) (Nat.le_refl _) fun i hi => ?_
      rw [take_getD _ _ _ _ hi]
      exact hcell i (by omega)
    · have := hb ((((lits (H := H) k (zs.take n)).length + (lits (H := H) k (zs.drop n)).length)) * P.bytesOf e) (by simp only [DataW.weights, ht]; exact List.mem_cons_self)
      rw [hln] at this
      exact Nat.le_trans (Nat.mul_le_mul_right _ (by omega)) this

theorem bulk_strs : ∀ (ss : List ByteArray), Rows.uptoBulkAll (strs (H := H) ss) = (ss.map fun s => s.size + 1).sum
  | [] => by simp [strs, Rows.uptoBulkAll]
  | s :: t => by
    have := bulk_strs t
    simp only [strs, List.map_cons, Rows.uptoBulkAll, Rows.uptoBulk, List.sum_cons] at this ⊢
    rw [this]; rfl

/-- a slice of strings -/
theorem strs1 {t e : TypeId} {v : Value} {d : DataW H} {p : List MemPlace} (ht : P.underlying t = some (.slice e)) (he : P.underlying e = some .string) (hc : P.cellsOf e = 1)
    (hv : Value.okWide P w r b0 t v) (h : DataW.Trod enc P w base sp held t v d p) :
    ∃ (a : Option Addr) (n cap : Nat) (ss : List ByteArray), v = .slice a n cap ∧ ss.length = n ∧ Row w a n (fun i => .string (ss.getD i ByteArray.empty)) ∧ n ≤ cap ∧ (ss.map fun s => s.size + 1).sum + 1 ≤ Rows.uptoBulk d ∧ cap ≤ maxLen ∧ (∀ s ∈ ss, s.size ≤ maxLen) := by
  obtain ⟨a, n, cap, rfl⟩ := okWide_slice ht hv
  obtain ⟨fuel, hf⟩ := h
  rcases open_strings ht he hc hf with ⟨hcs, hx⟩ | ⟨x, l, c, zs, hcs, _, hl, hm, hz, hx, hcell, hwz⟩
  · simp [Value.cells] at hcs
    obtain ⟨rfl, rfl, rfl⟩ := hcs
    simp only [Prod.mk.injEq] at hx
    obtain ⟨rfl, rfl⟩ := hx
    exact ⟨none, 0, 0, [], rfl, rfl, .inl rfl, by omega, by simpa using one_le _, by unfold maxLen; omega, by simp⟩
  · simp [Value.cells] at hcs
    obtain ⟨rfl, rfl, rfl⟩ := hcs
    simp only [Prod.mk.injEq] at hx
    obtain ⟨rfl, rfl⟩ := hx
    have hlen : n ≤ zs.length := by rw [hz]; split <;> omega
    refine ⟨_, _, _, zs.take n, rfl, by simp; omega, ?_, hl, ?_, hm, fun y hy => hwz y (List.mem_of_mem_take hy)⟩
    · refine row_of (m := n) (Nat.le_refl _) fun i hi => ?_
      rw [take_getD _ _ _ _ hi]
      exact hcell i (by omega)
    · simp only [Rows.uptoBulk, bulk_strs]; omega
theorem weights_strs {P : Program} (e : TypeId) : ∀ (ss : List ByteArray) (s : ByteArray), s ∈ ss → s.size ∈ DataW.weightsAll P e (strs (H := H) ss)
  | [], s, h => by cases h
  | x :: r, s, h => by
    simp only [strs, List.map_cons, DataW.weightsAll, DataW.weights]
    rcases List.mem_cons.1 h with rfl | h
    · exact List.mem_append.2 (.inl (List.mem_singleton.2 (by simp)))
    · exact List.mem_append.2 (.inr (weights_strs e r s h))
/-- a slice of strings, with what its weights bound -/
theorem strs2 {t e : TypeId} {v : Value} {d : DataW H} {p : List MemPlace} (ht : P.underlying t = some (.slice e)) (he : P.underlying e = some .string) (hc : P.cellsOf e = 1)
    (hv : Value.okWide P w r b0 t v) (h : DataW.Trod enc P w base sp held t v d p) :
    ∃ (a : Option Addr) (n cap : Nat) (ss : List ByteArray), v = .slice a n cap ∧ ss.length = n ∧ Row w a n (fun i => .string (ss.getD i ByteArray.empty)) ∧ n ≤ cap ∧ cap ≤ maxLen ∧
      (∀ b, (∀ m ∈ d.weights P t, m ≤ b) → (∀ s ∈ ss, s.size ≤ b) ∧ n * P.bytesOf e ≤ b) := by
  obtain ⟨a, n, cap, rfl⟩ := okWide_slice ht hv
  obtain ⟨fuel, hf⟩ := h
  rcases open_strings ht he hc hf with ⟨hcs, hx⟩ | ⟨x, l, c, zs, hcs, _, hl, hm, hz, hx, hcell, hwz⟩
  · simp [Value.cells] at hcs
    obtain ⟨rfl, rfl, rfl⟩ := hcs
    simp only [Prod.mk.injEq] at hx
    obtain ⟨rfl, rfl⟩ := hx
    exact ⟨none, 0, 0, [], rfl, rfl, .inl rfl, by omega, by unfold maxLen; omega, fun b _ => ⟨by simp, by omega⟩⟩
  · simp [Value.cells] at hcs
    obtain ⟨rfl, rfl, rfl⟩ := hcs
    simp only [Prod.mk.injEq] at hx
    obtain ⟨rfl, rfl⟩ := hx
    have hlen : n ≤ zs.length := by rw [hz]; split <;> omega
    have hln : (strs (H := H) (zs.take n)).length = n := by simp [strs]; omega
    refine ⟨_, _, _, zs.take n, rfl, by simp; omega, ?_, hl, hm, fun b hb => ⟨fun s hs => ?_, ?_⟩⟩
    · refine row_of (m := n) (Nat.le_refl _) fun i hi => ?_
      rw [take_getD _ _ _ _ hi]
      exact hcell i (by omega)
    · refine hb _ ?_
      simp only [DataW.weights, ht]
      exact List.mem_cons_of_mem _ (List.mem_append.2 (.inl (weights_strs e _ s hs)))
    · have := hb ((((strs (H := H) (zs.take n)).length + (strs (H := H) (zs.drop n)).length)) * P.bytesOf e) (by simp only [DataW.weights, ht]; exact List.mem_cons_self)
      rw [hln] at this
      exact Nat.le_trans (Nat.mul_le_mul_right _ (by omega)) this
end

/-- a list's sizes, one by one -/
theorem size_le_sum (ss : List ByteArray) (i : Nat) : (ss.getD i ByteArray.empty).size ≤ (ss.map fun s => s.size + 1).sum := by
  induction ss generalizing i with
  | nil => simp
  | cons s t ih =>
    cases i with
    | zero => simp; omega
    | succ i => have := ih i; simp at this ⊢; omega
theorem length_le_sum (ss : List ByteArray) : ss.length ≤ (ss.map fun s => s.size + 1).sum := by
  induction ss with
  | nil => simp
  | cons s t ih => simp; omega

end Go.Proofs.YtpihmjdljbienaaGreatDoor.Op

/- A law's slice of entries, opened: five cells each; what its weights bound. -/
namespace Go.Proofs.YtpihmjdljbienaaGreatDoor.Op
open Go.ChangeShapes Go.WideShapes Go.ChangeAt Go.RowKit Go.Deep
open B En
set_option linter.unusedVariables false

/-- an entry as a datum -/
def entD {H : Type} (e : Ent) : DataW H := .agg [.lit (.string e.key.data.toList), .lit (.int .i64 e.seq), .lit (.bool e.gone), .lit (.string e.val.data.toList), .lit (.int .i64 e.til)]
structure EntT (P : Program) (e : TypeId) (fs : Array Field) : Prop where
  st : P.underlying e = some (.struct fs)
  one : oneCellFields P fs = true
  cells : P.cellsOf e = 5
  f0 : ∃ f, fs[0]? = some f ∧ P.underlying f.type = some .string
  f1 : ∃ f, fs[1]? = some f ∧ P.underlying f.type = some (.int .i64)
  f2 : ∃ f, fs[2]? = some f ∧ P.underlying f.type = some .bool
  f3 : ∃ f, fs[3]? = some f ∧ P.underlying f.type = some .string
  f4 : ∃ f, fs[4]? = some f ∧ P.underlying f.type = some (.int .i64)
  size : fs.size = 5

section
variable {H : Type} {enc : TypeId × Value → H} {P : Program} {w : World} {b0 base : Nat} {sp : Nat → Bool} {held : Bool} {r : Reach}

theorem ent_of {e : TypeId} {fs : Array Field} (T : EntT P e fs) {n : Nat} {cs : List Value} {y : DataW H × List MemPlace} (h : DataW.trod enc P w base sp held n e cs = some y) :
    ∃ x : Ent, cs = x.cells ∧ y.1 = entD x ∧ y.2 = [] ∧ x.key.size ≤ maxLen ∧ x.val.size ≤ maxLen ∧ (Lit.int .i64 x.seq).wf = true ∧ (Lit.int .i64 x.til).wf = true := by
  obtain ⟨ys, n', _, hy, hlen, hyl, hf⟩ := DataW.trod_struct T.st h
  rw [T.cells] at hlen
  rw [T.size] at hyl
  obtain ⟨f0, g0, u0⟩ := T.f0
  obtain ⟨f1, g1, u1⟩ := T.f1
  obtain ⟨f2, g2, u2⟩ := T.f2
  obtain ⟨f3, g3, u3⟩ := T.f3
  obtain ⟨f4, g4, u4⟩ := T.f4
  have h0 := hf 0 f0 g0
  have h1 := hf 1 f1 g1
  have h2 := hf 2 f2 g2
  have h3 := hf 3 f3 g3
  have h4 := hf 4 f4 g4
  rw [(hone_of T.one 0 f0 g0).1, (hone_of T.one 0 f0 g0).2] at h0
  rw [(hone_of T.one 1 f1 g1).1, (hone_of T.one 1 f1 g1).2] at h1
  rw [(hone_of T.one 2 f2 g2).1, (hone_of T.one 2 f2 g2).2] at h2
  rw [(hone_of T.one 3 f3 g3).1, (hone_of T.one 3 f3 g3).2] at h3
  rw [(hone_of T.one 4 f4 g4).1, (hone_of T.one 4 f4 g4).2] at h4
  match cs, hlen, ys, hyl with
  | [c0, c1, c2, c3, c4], _, [y0, y1, y2, y3, y4], _ =>
    simp only [List.drop_zero, List.take_succ_cons, List.take_zero, List.drop_succ_cons, List.getElem?_cons_zero, List.getElem?_cons_succ] at h0 h1 h2 h3 h4
    obtain ⟨s0, e0, rfl, k0⟩ := DataW.trod_string u0 h0
    obtain ⟨s1, e1, rfl, k1⟩ := DataW.trod_int u1 h1
    obtain ⟨s2, e2, rfl⟩ := DataW.trod_bool u2 h2
    obtain ⟨s3, e3, rfl, k3⟩ := DataW.trod_string u3 h3
    obtain ⟨s4, e4, rfl, k4⟩ := DataW.trod_int u4 h4
    simp only [List.cons.injEq, and_true] at e0 e1 e2 e3 e4
    subst e0 e1 e2 e3 e4
    subst hy
    exact ⟨⟨s0, s1, s2, s3, s4⟩, rfl, rfl, rfl, k0, k3, k1, k4⟩

theorem weights_ents {e : TypeId} {fs : Array Field} (T : EntT P e fs) (x : Ent) : x.key.size ∈ DataW.weights P e (entD (H := H) x) ∧ x.val.size ∈ DataW.weights P e (entD (H := H) x) := by
  have hs := T.size
  have ht := T.st
  simp only [entD, DataW.weights, ht]
  obtain ⟨l⟩ := fs
  match l, hs with
  | [a, b, c, d, f], _ =>
    simp [DataW.weightsEach, DataW.weights]
theorem weightsAll_mem {e : TypeId} {D : DataW H} {n : Nat} : ∀ {l : List (DataW H)}, D ∈ l → n ∈ D.weights P e → n ∈ DataW.weightsAll P e l
  | [], h, _ => by cases h
  | x :: r, h, hn => by
    simp only [DataW.weightsAll, List.mem_append]
    rcases List.mem_cons.1 h with rfl | h
    · exact .inl hn
    · exact .inr (weightsAll_mem h hn)
theorem bulk_ent (x : Ent) : Rows.uptoBulk (entD (H := H) x) = x.key.size + x.val.size + 6 := by
  simp [entD, Rows.uptoBulk, Rows.uptoBulkAll]; omega
theorem bulk_ents : ∀ (l : List Ent), Rows.uptoBulkAll (l.map (entD (H := H))) = (l.map fun x => x.key.size + x.val.size + 6).sum
  | [] => by simp [Rows.uptoBulkAll]
  | x :: t => by simp only [List.map_cons, Rows.uptoBulkAll, bulk_ent, bulk_ents t, List.sum_cons]

/-- an entry by itself -/
theorem ent1 {e : TypeId} {fs : Array Field} (T : EntT P e fs) {v : Value} {d : DataW H} {p : List MemPlace} (hv : Value.okWide P w r b0 e v) (h : DataW.Trod enc P w base sp held e v d p) :
    ∃ x : Ent, v = x.v ∧ (x.key.size ≤ maxLen ∧ x.val.size ≤ maxLen ∧ (Lit.int .i64 x.seq).wf = true ∧ (Lit.int .i64 x.til).wf = true) ∧ (∀ b, (∀ m ∈ d.weights P e, m ≤ b) → x.key.size ≤ b ∧ x.val.size ≤ b) := by
  obtain ⟨cs, rfl, _⟩ := okWide_struct T.st hv
  obtain ⟨fuel, hf⟩ := h
  obtain ⟨x, hc, hd, _, hw⟩ := ent_of T hf
  refine ⟨x, ?_, hw, fun b hb => ?_⟩
  · have h1 : cs.toList = x.cells := by simpa [Value.cells] using hc
    have h2 : cs = x.cells.toArray := by rw [← h1]
    rw [h2]; rfl
  · simp only at hd
    rw [hd] at hb
    exact ⟨hb _ (weights_ents T x).1, hb _ (weights_ents T x).2⟩
/-- a slice of entries -/
theorem ents1 {t e : TypeId} {fs : Array Field} (T : EntT P e fs) {v : Value} {d : DataW H} {p : List MemPlace} (ht : P.underlying t = some (.slice e))
    (hv : Value.okWide P w r b0 t v) (h : DataW.Trod enc P w base sp held t v d p) :
    ∃ (a : Option Addr) (n cap : Nat) (l : List Ent), v = .slice a n cap ∧ l.length = n ∧ ERow w a n (fun i => l.getD i ent0) ∧ n ≤ cap ∧ cap ≤ maxLen ∧
      (∀ x ∈ l, x.key.size ≤ maxLen ∧ x.val.size ≤ maxLen ∧ (Lit.int .i64 x.seq).wf = true ∧ (Lit.int .i64 x.til).wf = true) ∧
      (∀ b, (∀ m ∈ d.weights P t, m ≤ b) → (∀ x ∈ l, x.key.size ≤ b ∧ x.val.size ≤ b) ∧ n * P.bytesOf e ≤ b) ∧ (l.map fun x => x.key.size + x.val.size + 6).sum + 1 ≤ Rows.uptoBulk d := by
  obtain ⟨a, n, cap, rfl⟩ := okWide_slice ht hv
  obtain ⟨fuel, hf⟩ := h
  rcases open_slice ht hf with ⟨hcs, hx⟩ | ⟨ad, len, cap', m, k, D, Pl, hcs, _, hl, hm, hmm, hx, hi⟩
  · simp [Value.cells] at hcs
    obtain ⟨rfl, rfl, rfl⟩ := hcs
    simp only [Prod.mk.injEq] at hx
    obtain ⟨rfl, rfl⟩ := hx
    exact ⟨none, 0, 0, [], rfl, rfl, .inl rfl, by omega, by unfold maxLen; omega, by simp, fun b _ => ⟨by simp, by omega⟩, by simpa using one_le _⟩
  · simp [Value.cells] at hcs
    obtain ⟨rfl, rfl, rfl⟩ := hcs
    simp only [Prod.mk.injEq] at hx
    obtain ⟨rfl, rfl⟩ := hx
    have hnm : n ≤ m := by rw [hmm]; split <;> omega
    letI : Inhabited Ent := ⟨ent0⟩
    obtain ⟨F, hF⟩ := choose_lt (α := Ent) (n := m) (p := fun i x => (∀ j, j < 5 → w.cell? (ad.add (i * 5 + j)) = x.cells[j]?) ∧ D i = entD x ∧ x.key.size ≤ maxLen ∧ x.val.size ≤ maxLen ∧ (Lit.int .i64 x.seq).wf = true ∧ (Lit.int .i64 x.til).wf = true) (fun i him => by
      obtain ⟨cs', hc, ht'⟩ := hi i him
      rw [T.cells] at hc
      obtain ⟨x, rfl, hd, _, hw⟩ := ent_of T ht'
      obtain ⟨_, _, hat⟩ := World.cells?_some hc
      refine ⟨x, fun j hj => ?_, hd, hw⟩
      rw [← Go.Deep.add_add]
      exact hat j hj)
    have hmap : (List.range n).map D = ((List.range n).map F).map entD := by
      rw [List.map_map]
      refine List.map_congr_left fun i hi' => ?_
      exact (hF i (by have := List.mem_range.1 hi'; omega)).2.1
    have hget : ∀ i, i < n → ((List.range n).map F).getD i ent0 = F i := by
      intro i hi'
      simp [List.getD_eq_getElem?_getD, List.getElem?_range hi']
    refine ⟨some ad, n, cap, (List.range n).map F, rfl, by simp, ?_, hl, hm, ?_, fun b hb => ⟨?_, ?_⟩, ?_⟩
    · by_cases h0 : n = 0
      · exact .inl h0
      · have ha0 : ad.add 0 = ad := by simp [Addr.add]
        have hc0 := (hF 0 (by omega)).1 0 (by omega)
        simp only [Nat.zero_mul, Nat.add_zero] at hc0
        rw [ha0] at hc0
        have hs := World.cell?_spot (v := .string (F 0).key) hc0
        obtain ⟨b, off, spot⟩ := ad
        subst hs
        refine .inr ⟨b, off, rfl, block_lt_of_cell (a := ⟨b, off, none⟩) (v := .string (F 0).key) hc0, fun i hi' => ?_⟩
        have hgi := hget i hi'
        simp only [hgi]
        have hc := (hF i (by omega)).1
        have hadd : ∀ q, (⟨b, off, none⟩ : Addr).add q = ⟨b, off + q, none⟩ := by intro q; unfold Addr.add; split <;> simp_all
        refine ⟨?_, ?_, ?_, ?_, ?_⟩
        · have := hc 0 (by omega); rw [hadd] at this; exact this
        · have := hc 1 (by omega); rw [hadd] at this; exact this
        · have := hc 2 (by omega); rw [hadd] at this; exact this
        · have := hc 3 (by omega); rw [hadd] at this; exact this
        · have := hc 4 (by omega); rw [hadd] at this; exact this
    · intro x hx
      obtain ⟨i, hi', rfl⟩ := List.mem_map.1 hx
      exact (hF i (by have := List.mem_range.1 hi'; omega)).2.2
    · intro x hx
      have hin : entD (H := H) x ∈ ((List.range n).map F).map entD := List.mem_map_of_mem hx
      have key : ∀ q, q ∈ DataW.weights P e (entD (H := H) x) → q ≤ b := by
        intro q hq
        refine hb _ ?_
        simp only [DataW.weights, ht]
        refine List.mem_cons_of_mem _ (List.mem_append.2 (.inl ?_))
        rw [hmap]
        exact weightsAll_mem hin hq
      exact ⟨key _ (weights_ents T x).1, key _ (weights_ents T x).2⟩
    · have := hb ((((List.range n).map D).length + ((List.range (m - n)).map fun j => D (n + j)).length) * P.bytesOf e) (by simp only [DataW.weights, ht]; exact List.mem_cons_self)
      refine Nat.le_trans (Nat.mul_le_mul_right _ ?_) this
      simp
    · simp only [Rows.uptoBulk, hmap, bulk_ents]
      omega
end
end Go.Proofs.YtpihmjdljbienaaGreatDoor.Op

/- A law's list of lists of entries, opened. -/
namespace Go.Proofs.YtpihmjdljbienaaGreatDoor.Op
open Go.ChangeShapes Go.WideShapes Go.ChangeAt Go.RowKit Go.Deep
open B En
set_option linter.unusedVariables false
section
variable {H : Type} {enc : TypeId × Value → H} {P : Program} {w : World} {b0 base : Nat} {sp : Nat → Bool} {held : Bool} {r : Reach}
/-- a slice of entries, out of its cells -/
theorem ents0 {t e : TypeId} {fs : Array Field} (T : EntT P e fs) {fuel : Nat} {cs : List Value} {y : DataW H × List MemPlace} (ht : P.underlying t = some (.slice e))
    (hf : DataW.trod enc P w base sp held fuel t cs = some y) :
    ∃ (a : Option Addr) (n cap : Nat) (l : List Ent), cs = [.slice a n cap] ∧ l.length = n ∧ ERow w a n (fun i => l.getD i ent0) ∧ n ≤ cap ∧ cap ≤ maxLen ∧
      (∀ x ∈ l, x.key.size ≤ maxLen ∧ x.val.size ≤ maxLen ∧ (Lit.int .i64 x.seq).wf = true ∧ (Lit.int .i64 x.til).wf = true) ∧
      (∀ b, (∀ m ∈ y.1.weights P t, m ≤ b) → (∀ x ∈ l, x.key.size ≤ b ∧ x.val.size ≤ b) ∧ n * P.bytesOf e ≤ b) := by
  rcases open_slice ht hf with ⟨hcs, hx⟩ | ⟨ad, n, cap, m, k, D, Pl, hcs, _, hl, hm, hmm, hx, hi⟩
  · subst hcs
    exact ⟨none, 0, 0, [], rfl, rfl, .inl rfl, by omega, by unfold maxLen; omega, by simp, fun b _ => ⟨by simp, by omega⟩⟩
  · subst hcs
    obtain ⟨d, p⟩ := y
    simp only [Prod.mk.injEq] at hx
    obtain ⟨rfl, rfl⟩ := hx
    have hnm : n ≤ m := by rw [hmm]; split <;> omega
    letI : Inhabited Ent := ⟨ent0⟩
    obtain ⟨F, hF⟩ := choose_lt (α := Ent) (n := m) (p := fun i x => (∀ j, j < 5 → w.cell? (ad.add (i * 5 + j)) = x.cells[j]?) ∧ D i = entD x ∧ x.key.size ≤ maxLen ∧ x.val.size ≤ maxLen ∧ (Lit.int .i64 x.seq).wf = true ∧ (Lit.int .i64 x.til).wf = true) (fun i him => by
      obtain ⟨cs', hc, ht'⟩ := hi i him
      rw [T.cells] at hc
      obtain ⟨x, rfl, hd, _, hw⟩ := ent_of T ht'
      obtain ⟨_, _, hat⟩ := World.cells?_some hc
      refine ⟨x, fun j hj => ?_, hd, hw⟩
      rw [← Go.Deep.add_add]
      exact hat j hj)
    have hmap : (List.range n).map D = ((List.range n).map F).map entD := by
      rw [List.map_map]
      refine List.map_congr_left fun i hi' => ?_
      exact (hF i (by have := List.mem_range.1 hi'; omega)).2.1
    have hget : ∀ i, i < n → ((List.range n).map F).getD i ent0 = F i := by
      intro i hi'
      simp [List.getD_eq_getElem?_getD, List.getElem?_range hi']
    refine ⟨some ad, n, cap, (List.range n).map F, rfl, by simp, ?_, hl, hm, ?_, fun b hb => ⟨?_, ?_⟩⟩
    · by_cases h0 : n = 0
      · exact .inl h0
      · have ha0 : ad.add 0 = ad := by simp [Addr.add]
        have hc0 := (hF 0 (by omega)).1 0 (by omega)
        simp only [Nat.zero_mul, Nat.add_zero] at hc0
        rw [ha0] at hc0
        have hs := World.cell?_spot (v := .string (F 0).key) hc0
        obtain ⟨b, off, spot⟩ := ad
        subst hs
        refine .inr ⟨b, off, rfl, block_lt_of_cell (a := ⟨b, off, none⟩) (v := .string (F 0).key) hc0, fun i hi' => ?_⟩
        have hgi := hget i hi'
        simp only [hgi]
        have hc := (hF i (by omega)).1
        have hadd : ∀ q, (⟨b, off, none⟩ : Addr).add q = ⟨b, off + q, none⟩ := by intro q; unfold Addr.add; split <;> simp_all
        refine ⟨?_, ?_, ?_, ?_, ?_⟩
        · have := hc 0 (by omega); rw [hadd] at this; exact this
        · have := hc 1 (by omega); rw [hadd] at this; exact this
        · have := hc 2 (by omega); rw [hadd] at this; exact this
        · have := hc 3 (by omega); rw [hadd] at this; exact this
        · have := hc 4 (by omega); rw [hadd] at this; exact this
    · intro x hx
      obtain ⟨i, hi', rfl⟩ := List.mem_map.1 hx
      exact (hF i (by have := List.mem_range.1 hi'; omega)).2.2
    · intro x hx
      have hin : entD (H := H) x ∈ ((List.range n).map F).map entD := List.mem_map_of_mem hx
      have key : ∀ q, q ∈ DataW.weights P e (entD (H := H) x) → q ≤ b := by
        intro q hq
        refine hb _ ?_
        simp only [DataW.weights, ht]
        refine List.mem_cons_of_mem _ (List.mem_append.2 (.inl ?_))
        rw [hmap]
        exact weightsAll_mem hin hq
      exact ⟨key _ (weights_ents T x).1, key _ (weights_ents T x).2⟩
    · have := hb ((((List.range n).map D).length + ((List.range (m - n)).map fun j => D (n + j)).length) * P.bytesOf e) (by simp only [DataW.weights, ht]; exact List.mem_cons_self)
      refine Nat.le_trans (Nat.mul_le_mul_right _ ?_) this
      simp
/-- a slice of slices of entries -/
theorem lists1 {t s e : TypeId} {fs : Array Field} (T : EntT P e fs) {v : Value} {d : DataW H} {p : List MemPlace} (ht : P.underlying t = some (.slice s)) (hs : P.underlying s = some (.slice e)) (hc : P.cellsOf s = 1)
    (hv : Value.okWide P w r b0 t v) (h : DataW.Trod enc P w base sp held t v d p) :
    ∃ (a : Option Addr) (n cap : Nat) (sl : Nat → Option Addr × Nat × Nat) (ls : List (List Ent)), v = .slice a n cap ∧ n ≤ cap ∧ ls.length = n ∧ Row w a n (fun i => .slice (sl i).1 (sl i).2.1 (sl i).2.2) ∧
      (∀ i, i < n → (ls.getD i []).length = (sl i).2.1 ∧ (sl i).2.1 ≤ (sl i).2.2 ∧ ERow w (sl i).1 (sl i).2.1 (fun j => (ls.getD i []).getD j ent0)) ∧
      (∀ b, (∀ m ∈ d.weights P t, m ≤ b) → ∀ i, (sl i).2.1 * P.bytesOf e ≤ b) := by
  obtain ⟨a, n, cap, rfl⟩ := okWide_slice ht hv
  obtain ⟨fuel, hf⟩ := h
  rcases open_slice ht hf with ⟨hcs, hx⟩ | ⟨ad, len, cap', m, k, D, Pl, hcs, _, hl, hm, hmm, hx, hi⟩
  · simp [Value.cells] at hcs
    obtain ⟨rfl, rfl, rfl⟩ := hcs
    exact ⟨none, 0, 0, fun _ => (none, 0, 0), [], rfl, by omega, rfl, .inl rfl, fun i hi => by omega, fun b _ i => by simp⟩
  · simp [Value.cells] at hcs
    obtain ⟨rfl, rfl, rfl⟩ := hcs
    simp only [Prod.mk.injEq] at hx
    obtain ⟨rfl, rfl⟩ := hx
    have hnm : n ≤ m := by rw [hmm]; split <;> omega
    letI : Inhabited ((Option Addr × Nat × Nat) × List Ent) := ⟨((none, 0, 0), [])⟩
    obtain ⟨F, hF⟩ := choose_lt (α := (Option Addr × Nat × Nat) × List Ent) (n := m) (p := fun i x => w.cell? (ad.add i) = some (.slice x.1.1 x.1.2.1 x.1.2.2) ∧ x.2.length = x.1.2.1 ∧ x.1.2.1 ≤ x.1.2.2 ∧ ERow w x.1.1 x.1.2.1 (fun j => x.2.getD j ent0) ∧
      (∀ b, (∀ q ∈ (D i).weights P s, q ≤ b) → x.1.2.1 * P.bytesOf e ≤ b)) (fun i him => by
      obtain ⟨cs', hc1, ht'⟩ := hi i him
      rw [hc] at hc1
      obtain ⟨a0, n0, cap0, l0, rfl, h1, h2, h3, h4, h5, h6⟩ := ents0 T hs ht'
      obtain ⟨_, _, hat⟩ := World.cells?_some hc1
      have h0 := hat 0 (by omega)
      have hz : (ad.add (i * 1)).add 0 = ad.add i := by rw [Go.Deep.add_add, Nat.mul_one, Nat.add_zero]
      rw [hz] at h0
      exact ⟨((a0, n0, cap0), l0), h0, h1, h3, h2, fun b hb => (h6 b hb).2⟩)
    refine ⟨some ad, n, cap, fun i => if i < n then (F i).1 else (none, 0, 0), (List.range n).map fun i => (F i).2, rfl, hl, by simp, ?_, fun i hin => ?_, fun b hb i => ?_⟩
    · by_cases h0 : n = 0
      · exact .inl h0
      · have ha0 : ad.add 0 = ad := by simp [Addr.add]
        have hc0 := (hF 0 (by omega)).1
        rw [ha0] at hc0
        have hs0 := World.cell?_spot hc0
        obtain ⟨b, off, spot⟩ := ad
        subst hs0
        refine .inr ⟨b, off, rfl, block_lt_of_cell hc0, fun i hi' => ?_⟩
        have hadd : ∀ q, (⟨b, off, none⟩ : Addr).add q = ⟨b, off + q, none⟩ := by intro q; unfold Addr.add; split <;> simp_all
        have hci := (hF i (by omega)).1
        rw [hadd] at hci
        simp only [if_pos hi']
        exact hci
    · obtain ⟨h1, h2, h3, h4, h5⟩ := hF i (by omega)
      have hg : ((List.range n).map fun i => (F i).2).getD i [] = (F i).2 := by simp [List.getD_eq_getElem?_getD, List.getElem?_range hin]
      rw [hg]
      simp only [if_pos hin]
      exact ⟨h2, h3, h4⟩
    · by_cases hin : i < n
      · simp only [if_pos hin]
        refine (hF i (by omega)).2.2.2.2 b fun q hq => hb q ?_
        simp only [DataW.weights, ht]
        exact List.mem_cons_of_mem _ (List.mem_append.2 (.inl (weightsAll_mem (List.mem_map_of_mem (List.mem_range.2 hin)) hq)))
      · simp [if_neg hin]
end
end Go.Proofs.YtpihmjdljbienaaGreatDoor.Op

/- A pair of ints that came in, opened. -/
namespace Go.Proofs.YtpihmjdljbienaaGreatDoor.Op
open Go.ChangeShapes Go.WideShapes Go.ChangeAt Go.RowKit Go.Deep
open B En
set_option linter.unusedVariables false
section
variable {H : Type} {enc : TypeId × Value → H} {P : Program} {w : World} {b0 base : Nat} {sp : Nat → Bool} {held : Bool} {r : Reach}
theorem okWide_array {t e : TypeId} {n : Nat} {v : Value} (ht : P.underlying t = some (.array n e)) (h : Value.okWide P w r b0 t v) : ∃ cs, v = .agg cs := by
  simp only [Value.okWide, ht] at h
  obtain ⟨cs, h1, _⟩ := h
  exact ⟨cs, h1⟩
theorem pair1 {t e : TypeId} {v : Value} {d : DataW H} {p : List MemPlace} (ht : P.underlying t = some (.array 2 e)) (he : P.underlying e = some (.int .i64)) (hc : P.cellsOf e = 1) (hct : P.cellsOf t = 2)
    (hv : Value.okWide P w r b0 t v) (h : DataW.Trod enc P w base sp held t v d p) :
    ∃ a b : Int, v = .agg #[.int .i64 a, .int .i64 b] ∧ (Lit.int .i64 a).wf = true ∧ (Lit.int .i64 b).wf = true := by
  obtain ⟨cs, rfl⟩ := okWide_array ht hv
  obtain ⟨fuel, hf⟩ := h
  obtain ⟨xs, m, _, _, hlen, hx, hel⟩ := DataW.trod_array ht hf
  rw [hct] at hlen
  rw [hc] at hel
  have g0 := hel 0 (by omega)
  have g1 := hel 1 (by omega)
  obtain ⟨l⟩ := cs
  match l, xs, hx, hlen with
  | [x, y], [z0, z1], _, _ =>
    simp [Value.cells] at g0 g1
    obtain ⟨s0, e0, rfl, k0⟩ := DataW.trod_int he g0
    obtain ⟨s1, e1, rfl, k1⟩ := DataW.trod_int he g1
    simp only [List.cons.injEq, and_true] at e0 e1
    subst e0 e1
    exact ⟨s0, s1, rfl, k0, k1⟩
end
end Go.Proofs.YtpihmjdljbienaaGreatDoor.Op
